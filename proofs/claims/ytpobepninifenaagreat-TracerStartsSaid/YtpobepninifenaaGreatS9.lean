/- Texts that the laws lean on, in the order in which they build. A trace and the specification's value, made side by side in one region that draws its order. (Printed by mktrreg.py.) A tracer's changes in memory: its counter, a trace more; suspects. The tracer's Start. Ranging over a map inside a fence: of whatever program. (Printed by mkmapsin.py out of XMapS.) maps.Keys over trace identities: its keys, each once; slices.Collect. (Printed by mkuca.py out of XScKs.) DERIVED: THE SHELF's CONTRACTS AT THIS DUMP, IN PLAIN WORDS (tools/lay-plain.mjs out of 'YtpobepninifenaaGreatSortSrc35.lean', which tools/lay-shelf.mjs wrote): THE SAME DECLARATIONS UNDER THE SAME NAMES: 'import', 'namespace', 'open', 'def', 'theorem' AND NOTHING ELSE: no command of the shelf's: FOR A HAND-IN. Each laying: the table of numbers ('.._ren') and one theorem, a field a fact of the dump's own or the kernel's comparison; each contract: ONE APPLICATION. The tracer's Active. Trace.Certificate again: out of which blocks its certificate is read. (Printed by mkucc.py out of XTrCert.) The tracer's Finish. The tracer's Finish, walked. slices.Clone of answers, of claims, of needs. (Printed by mkuci.py out of XTrLib.) -/
import Derived.Test.YtpobepninifenaaGreatS8
import Derived.Test.YtpobepninifenaaGreatProg
import Derived.Sort.MapsRangeIn
import Derived.RangeFuncNested
import Derived.RangeFuncBound
import Derived.RangeFuncCalls
import Derived.RangeFuncLeaves
import Derived.RangeFuncFrom
import Derived.RangeFuncBox
import Derived.Maps.AppendAt
import Derived.Shelf.Abstract
import Derived.WalkKit
import Derived.OwnWalkIn
import Derived.TacticsInMore
import Derived.LoopNIn
import Derived.LoopIn
import Derived.Shelf.SlSortCmp.WholeK
import Derived.Ground.SlsfProg
set_option linter.unusedVariables false
set_option linter.unusedSimpArgs false
namespace Go.Proofs.YtpobepninifenaaGreat
open Go.RowKit

def rf0 (im is : Int) (st : T3) (vo va : Option Addr × Nat × Nat) : RfV := ⟨im, is, st.1, st.2.1, st.2.2, 0, vo, va, 0, (none, 0, 0), false, (none, 0, 0)⟩
set_option maxRecDepth 100000 in
set_option maxHeartbeats 4000000 in
theorem newR2_c (w : World) (im is : Int) (st : T3) :
    Calls Tryz.prog 69 #[idV im is, tV st] w fun e w' => ∃ vo va, e = .returned (rfV (rf0 im is st vo va)) ∧ shT.O w' w.heap.size tN (slv vo) [(im, st.2.1, st.1)] ∧ shA.O w' w.heap.size tA (slv va) [AnV.zero] ∧ Keeps [] w w' := by
  obtain ⟨s0, s1, s2⟩ := st
  go_enter Tryz.func69, Tryz.ntmps69
  go_wp2
  obtain ⟨w2, hw2⟩ : ∃ x, (w.alloc (.cells #[.int .i64 im, .int .i64 is] 39)).alloc (.cells #[.int .i64 s0, .int .u64 s1, .int .i64 s2] tN) = x := ⟨_, rfl⟩
  have hz2 : w2.heap.size = w.heap.size + 1 + 1 := by rw [← hw2]; simp
  have hk2 : Keeps [] w w2 := by rw [← hw2]; exact ((Keeps.refl _ _).alloc _).alloc _
  rw [hw2, ← hz2]
  have hb3 := heap_alloc_new w2 (.cells #[.int .i64 im, .int .i64 is, .int .i64 s0, .int .u64 s1, .int .i64 s2, .int .i64 0, .slice (some ⟨w2.heap.size + 1 + 1, 0, none⟩) 1 1, .slice (some ⟨w2.heap.size + 1 + 1 + 1, 0, none⟩) 1 1, .int .i64 0, .slice none 0 0, .bool false, .slice none 0 0] tR)
  have hk3 := hk2.alloc (.cells #[.int .i64 im, .int .i64 is, .int .i64 s0, .int .u64 s1, .int .i64 s2, .int .i64 0, .slice (some ⟨w2.heap.size + 1 + 1, 0, none⟩) 1 1, .slice (some ⟨w2.heap.size + 1 + 1 + 1, 0, none⟩) 1 1, .int .i64 0, .slice none 0 0, .bool false, .slice none 0 0] tR)
  obtain ⟨w3, hw3⟩ : ∃ x, w2.alloc (.cells #[.int .i64 im, .int .i64 is, .int .i64 s0, .int .u64 s1, .int .i64 s2, .int .i64 0, .slice (some ⟨w2.heap.size + 1 + 1, 0, none⟩) 1 1, .slice (some ⟨w2.heap.size + 1 + 1 + 1, 0, none⟩) 1 1, .int .i64 0, .slice none 0 0, .bool false, .slice none 0 0] tR) = x := ⟨_, rfl⟩
  have hz3 : w3.heap.size = w2.heap.size + 1 := by rw [← hw3]; simp
  rw [hw3] at hb3 hk3 ⊢
  obtain ⟨w4, hw4⟩ : ∃ x, w3.alloc (.cells #[.int .i64 im, .int .u64 s1, .int .i64 s0] tN) = x := ⟨_, rfl⟩
  have hz4 : w4.heap.size = w3.heap.size + 1 := by rw [← hw4]; simp
  have hk4 : Keeps [] w3 w4 := by rw [← hw4]; exact (Keeps.refl _ _).alloc _
  have hO := Sh.O.one shT w4 (im, s1, s0) #[.int .i64 im, .int .u64 s1, .int .i64 s0] tN w.heap.size rfl (by omega)
  have hk5 := hk4.alloc (.cells #[.int .i64 im, .int .u64 s1, .int .i64 s0] tN)
  obtain ⟨w5, hw5⟩ : ∃ x, w4.alloc (.cells #[.int .i64 im, .int .u64 s1, .int .i64 s0] tN) = x := ⟨_, rfl⟩
  have hz5 : w5.heap.size = w4.heap.size + 1 := by rw [← hw5]; simp
  rw [hw5] at hO hk5
  have hA := Sh.O.one shA w5 AnV.zero #[.int .i64 0, .int .i64 0, .int .u64 (0 : Nat), .int .i64 0, .bool false, .bool false, .int .i64 0, .slice none 0 0] tA w.heap.size rfl (by omega)
  have hk6 := hk5.alloc (.cells #[.int .i64 0, .int .i64 0, .int .u64 (0 : Nat), .int .i64 0, .bool false, .bool false, .int .i64 0, .slice none 0 0] tA)
  have hk56 : Keeps [] w5 _ := (Keeps.refl [] w5).alloc (.cells #[.int .i64 0, .int .i64 0, .int .u64 (0 : Nat), .int .i64 0, .bool false, .bool false, .int .i64 0, .slice none 0 0] tA)
  rw [show w4.heap.size = w2.heap.size + 1 + 1 by omega] at hO
  rw [show w5.heap.size = w2.heap.size + 1 + 1 + 1 by omega] at hA
  rw [show (w3.alloc (.cells #[.int .i64 im, .int .u64 s1, .int .i64 s0] 53)) = w4 from hw4, show (w4.alloc (.cells #[.int .i64 im, .int .u64 s1, .int .i64 s0] 53)) = w5 from hw5]
  refine bodyPost_ret (results_cell_row rfl _ _ _ _ _ _ _ rfl ((hk6.block _ (lt_of_blk hb3) (by simp)).trans hb3) Tryz.underlying88 rfl (by kernel_rfl)) ?_ ?_
  · rfl
  · exact ⟨(some ⟨w2.heap.size + 1 + 1, 0, none⟩, 1, 1), (some ⟨w2.heap.size + 1 + 1 + 1, 0, none⟩, 1, 1), rfl, hO.keeps hk56, hA, hk3.trans hk6⟩

theorem Sh.O.lowB {α : Type} {s : Sh α} {w : World} {B B' e : Nat} {v : Value} {L : List α} (h : s.O w B e v L) (hB : B' ≤ B) : s.O w B' e v L := by
  refine ⟨h.1, ?_⟩
  rcases h.2 with hn | ⟨g, cap, cur, rfl, h1, rest⟩
  · exact .inl hn
  · exact .inr ⟨g, cap, cur, rfl, Nat.le_trans hB h1, rest⟩
theorem TrM.lowB {w : World} {B B' bt bm : Nat} {vo vh vg : Value} {t : Tr} (h : TrM w B bt bm vo vh vg t) (hB : B' ≤ B) : TrM w B' bt bm vo vh vg t := by
  obtain ⟨X, hX, hXL⟩ := h.hi
  exact ⟨h.blk, h.op.lowB hB, ⟨X, hX.lowB hB, hXL⟩, h.ag.lowB hB, h.mp, h.inv, ⟨Nat.le_trans hB h.bB.1, Nat.le_trans hB h.bB.2⟩⟩
end Go.Proofs.YtpobepninifenaaGreat

namespace Go.Proofs.YtpobepninifenaaGreat
open Go.RowKit

namespace TcM
variable {w w' : World} {B bp bm : Nat} {vc : Value} {A : List AT} {T : Tc}
theorem ne (h : TcM w B bp bm vc A T) : bp ≠ bm := fun e => by
  obtain ⟨es, c, hm⟩ := h.mp.isMap
  rw [← e, h.blk] at hm
  cases hm
theorem vne (h : TcM w B bp bm vc A T) : vc.ownBlock ≠ some bp ∧ vc.ownBlock ≠ some bm := by
  obtain ⟨X, hX, _⟩ := h.cs
  refine ⟨fun e => ?_, fun e => ?_⟩
  · obtain ⟨cs, hc⟩ := hX.tag _ e
    exact tag_ne hc h.blk (by decide) rfl
  · obtain ⟨cs, hc⟩ := hX.tag _ e
    obtain ⟨es, c, hm⟩ := h.mp.isMap
    rw [hc] at hm
    cases hm
/-- The counter turns. -/
theorem setS (h : TcM w B bp bm vc A T) (s : Int) (hk : Keeps [bp] w w') (hb : w'.heap[bp]? = some (.cells #[.int .i64 T.m, .int .i64 s, .map (some bm), vc] tTc (0, 0))) :
    TcM w' B bp bm vc A { T with s := s } ∧ Mv (ownTc bp bm vc A) (ownTc bp bm vc A) w w' := by
  obtain ⟨X, hX, hl, hc⟩ := h.cs
  have hi : KI w w' := hk.ki (fun b hb cs f e => by simp at hb; subst hb; rw [h.blk] at e; cases e)
  have hK : Keeps (ownTc bp bm vc A) w w' := hk.mono (fun b hb => by simp at hb; subst hb; exact mem_ownTc.2 (.inl rfl))
  refine ⟨⟨h.ac, hb, h.mp.kept ktId hk (by simpa using h.ne.symm), fun a ha => (h.tr a ha).keep hk (fun b hb hm => (h.ob a ha b hb).1 (by simpa using hm)) hi, h.dj, h.ob,
    ⟨X, hX.keepS hk (fun b hb e => by simp at hb; subst hb; exact h.vne.1 e), hl, fun k x c h1 h2 => ?_⟩, h.bB⟩, hK, hi, fun b hb => .inl hb⟩
  obtain ⟨g1, g2⟩ := hc k x c h1 h2
  exact ⟨g1.keepS hK hi (fun b hb => h.tag hb) (fun b hb => (g2 b hb).2), fun b hb => ⟨Nat.lt_of_lt_of_le (g2 b hb).1 hk.size, (g2 b hb).2⟩⟩
/-- A trace more. -/
theorem add {w1 w2 : World} (h : TcM w B bp bm vc A T) (hk : Keeps [] w w1) {bt bn : Nat} {vo vh vg : Value} {u : Tr} {B1 : Nat} (hB1 : w.heap.size ≤ B1) (hT : TrM w1 B1 bt bn vo vh vg u)
    (hM : MapS.M ktId ptrV w2 bm (A.map (fun a => (a.t.idp, a.bt)) ++ [(u.idp, bt)])) (hk2 : Keeps [bm] w1 w2) :
    TcM w2 B bp bm vc (A ++ [⟨u, bt, bn, vo, vh, vg⟩]) { T with act := T.act ++ [u] } ∧ Mv (ownTc bp bm vc A) (ownTc bp bm vc (A ++ [⟨u, bt, bn, vo, vh, vg⟩])) w w2 := by
  have h1 := h.keeps hk
  have hi2 : KI w1 w2 := hk2.ki (fun b hb cs f e => by
    simp at hb; subst hb
    obtain ⟨es, c, hm⟩ := h1.mp.isMap
    rw [hm] at e; cases e)
  have hBw : B ≤ w.heap.size := by have := h.bB; have := h.lt; omega
  have hTB : TrM w1 B bt bn vo vh vg u := hT.lowB (by omega)
  have hfr : ∀ c ∈ ownT bt bn vo vh vg, w.heap.size ≤ c := fun c hc => by have := (hT.own_tag hc).1; omega
  have hlt : ∀ c ∈ ownTc bp bm vc A, c < w.heap.size := fun c hc => (h.tag hc).1
  have hKall : Keeps (ownTc bp bm vc A) w w2 := hk.of_nil.trans (hk2.mono (fun b hb => by simp at hb; subst hb; exact mem_ownTc.2 (.inr (.inl rfl))))
  have hIall : KI w w2 := hk.ki0.trans hi2
  have hmem : ∀ {b}, b ∈ ownTc bp bm vc (A ++ [⟨u, bt, bn, vo, vh, vg⟩]) → b ∈ ownTc bp bm vc A ∨ w.heap.size ≤ b := fun {b} hb => by
    rcases mem_ownTc.1 hb with e | e | e | ⟨a, ha, hb⟩
    · exact .inl (mem_ownTc.2 (.inl e))
    · exact .inl (mem_ownTc.2 (.inr (.inl e)))
    · exact .inl (mem_ownTc.2 (.inr (.inr (.inl e))))
    · rcases List.mem_append.1 ha with g | g
      · exact .inl (mem_ownTc.2 (.inr (.inr (.inr ⟨a, g, hb⟩))))
      · simp at g; subst g; exact .inr (hfr b hb)
  obtain ⟨X, hX, hl, hc⟩ := h.cs
  have hbm : bm < w.heap.size := h.lt.2
  have hbp : bp < w.heap.size := h.lt.1
  refine ⟨⟨by rw [List.map_append, h.ac]; rfl, (hk2.block _ h1.lt.1 (by simpa using h.ne)).trans h1.blk, by rw [List.map_append]; exact hM, ?_, ?_, ?_, ⟨X, (hX.keeps hk).keepS hk2 (fun b hb e => by simp at hb; subst hb; exact h.vne.2 e), hl, fun k x c g1 g2 => ?_⟩, h.bB⟩, hKall, hIall, fun b hb => hmem hb⟩
  · intro a ha
    rcases List.mem_append.1 ha with g | g
    · exact (h1.tr a g).keep hk2 (fun b hb hm => (h1.ob a g b hb).2.1 (by simpa using hm)) hi2
    · simp at g; subst g
      exact hTB.keep hk2 (fun b hb hm => by simp at hm; subst hm; have := hfr _ hb; omega) hi2
  · refine List.pairwise_append.2 ⟨h.dj, by simp, fun a ha b hb c hc1 hc2 => ?_⟩
    simp at hb; subst hb
    have := hfr c hc2
    have := hlt c (mem_ownTc.2 (.inr (.inr (.inr ⟨a, ha, hc1⟩))))
    omega
  · intro a ha c hc1
    rcases List.mem_append.1 ha with g | g
    · exact h.ob a g c hc1
    · simp at g; subst g
      have g5 := hfr c hc1
      exact ⟨by omega, by omega, fun e => by have := hX.lt c e; omega⟩
  · obtain ⟨g3, g4⟩ := hc k x c g1 g2
    refine ⟨g3.keepS hKall hIall (fun b hb => h.tag hb) (fun b hb => (g4 b hb).2), fun b hb => ⟨Nat.lt_of_lt_of_le (g4 b hb).1 hKall.size, fun hm => ?_⟩⟩
    rcases hmem hm with g5 | g5
    · exact (g4 b hb).2 g5
    · have := (g4 b hb).1; omega
end TcM
/-! suspects -/
abbrev tSm : Nat := 58
structure SmV where
  ow : Int
  n : Nat
  rt : Bool
  d : Int
  ins : Option Addr × Nat × Nat
def SmV.cs (x : SmV) : List Value := [.int .i64 x.ow, .int .u64 x.n, .bool x.rt, .int .i64 x.d, slv x.ins]
def shSm : Sh SmV := ⟨5, SmV.cs, fun _ => rfl, by decide, fun x u hu => by simp [SmV.cs] at hu; rcases hu with rfl | rfl | rfl | rfl | rfl <;> rfl⟩
def SmV.p (x : SmV) : Sm := (x.ow, x.n)
/-- A list of suspects that is read. -/
def Sms (w : World) (v : Value) (S : List Sm) : Prop := ∃ X, shSm.R w v X ∧ X.map SmV.p = S
theorem Sms.keepS {w w' : World} {v : Value} {S : List Sm} {D : List Nat} (h : Sms w v S) (hk : Keeps D w w') (hS : ∀ b ∈ D, v.ownBlock ≠ some b) : Sms w' v S := by
  obtain ⟨X, h1, h2⟩ := h
  exact ⟨X, h1.keepS hk hS, h2⟩
theorem Sms.keeps {w w' : World} {v : Value} {S : List Sm} (h : Sms w v S) (hk : Keeps [] w w') : Sms w' v S := h.keepS hk (by simp)
def smOk (x : Sm) : Prop := W64 x.1 ∧ x.2 < 18446744073709551616
end Go.Proofs.YtpobepninifenaaGreat

namespace Go.Proofs.YtpobepninifenaaGreat
open Go Go.RowKit

theorem infoId : (Tryz.prog.info? tId).map (fun i => (i.zero, i.size, i.bytes)) = some (some (ipV (0, 0)), 2, 16) := by kernel_rfl
def StartPost (w : World) (B bp bm : Nat) (vc : Value) (A : List AT) (T : Tc) (S : List Sm) (e : Ending) (w' : World) : Prop :=
  ∃ v A', e = .returned v ∧ shId.O w' w.heap.size tId v (T.startIds S) ∧ TcM w' B bp bm vc A' (T.start S) ∧ Mv (ownTc bp bm vc A) (ownTc bp bm vc A') w w'
theorem startIds_len (T : Tc) : ∀ (S : List Sm) (T : Tc), (T.startIds S).length ≤ S.length
  | [], _ => by simp [Tc.startIds]
  | x :: S, T => by
    have h := startIds_len T S (T.start1 x)
    have h1 : (T.ids1 x).length ≤ 1 := by unfold Tc.ids1; split <;> simp
    show (T.ids1 x ++ (T.start1 x).startIds S).length ≤ _
    rw [List.length_append, List.length_cons]
    omega
set_option maxRecDepth 100000 in
set_option maxHeartbeats 8000000 in
theorem tstart_c (w : World) (B bp bm : Nat) (vc : Value) (A : List AT) (T : Tc) (n k0 : Nat) (h : TcM w B bp bm vc A T) (ho : T.Ok n k0) (S : List Sm) (v : Value) (hS : Sms w v S) (hfit : ∀ x ∈ S, smOk x) (hm : W64 T.m) (hlen : k0 + S.length ≤ 10000)
    (hsep : S ≠ [] → ∀ b, v.ownBlock = some b → b ∉ ownTc bp bm vc A) :
    Calls Tryz.prog 19 #[ptrV bp, v] w (StartPost w B bp bm vc A T S) := by
  obtain ⟨X, hX, hXS⟩ := hS
  have hXl : X.length = S.length := by rw [← hXS, List.length_map]
  obtain ⟨va, vcp, rfl, hl1, hl2, _⟩ := hX.form
  obtain ⟨N, hN⟩ : ∃ n, X.length = n := ⟨_, rfl⟩
  rw [hN] at hX hl1 hsep hXl ⊢
  have hNm : N ≤ 10000 := by omega
  have hvlt : ∀ b, (Value.slice va N vcp).ownBlock = some b → 0 < N → b < w.heap.size := fun b hb h0 => by
    obtain ⟨g, o, c, e, he⟩ := hX.elem (k := 0) (by omega)
    rw [hN] at e
    cases e
    simp [Value.ownBlock] at hb
    subst hb
    exact lt_of_cell (he 0 _ rfl)
  replace h := Lib.hid h
  replace ho := Lib.hid ho
  replace hX := Lib.hid hX
  replace hXS := Lib.hid hXS
  replace hfit := Lib.hid hfit
  replace hN := Lib.hid hN
  replace hsep := Lib.hid hsep
  replace hvlt := Lib.hid hvlt
  replace hlen := Lib.hid hlen
  replace hm := Lib.hid hm
  replace hXl := Lib.hid hXl
  unfold ptrV
  go_enter Tryz.func19, Tryz.ntmps19
  go_wp2
  go_loopw [5, 12] (fun ov i wr => ∃ (k : Nat) (Ak : List AT), i = .int .i64 k ∧ k ≤ N ∧ Hid (shId.O wr w.heap.size tId ov (T.startIds (S.take k))) ∧ Hid (TcM wr B bp bm vc Ak (T.start (S.take k))) ∧ Hid (Mv (ownTc bp bm vc A) (ownTc bp bm vc Ak) w wr)) (fun _ i _ => N - (intOf i).toNat)
  case atStart => exact ⟨0, A, rfl, by omega, Lib.hid (Sh.O.nil _ _ _ _), h, Lib.hid (Mv.nil (Keeps.refl [] w))⟩
  case round =>
    obtain ⟨k, Ak, rfl, hk, hO, hT, hM⟩ := hrel
    obtain ⟨oa, oc, rfl⟩ := hO.out.form
    have hLk : (T.startIds (S.take k)).length ≤ k := Nat.le_trans (startIds_len T _ _) (by rw [List.length_take]; omega)
    obtain ⟨NN, hNN⟩ : ∃ m, (T.startIds (S.take k)).length = m := ⟨_, rfl⟩
    rw [hNN] at hO hLk ⊢
    replace hNN := Lib.hid hNN
    by_cases hlt : k < N
    · have hlt2 : (k : Int) < N := by omega
      have hkX : k < X.length := by rw [hN.out]; exact hlt
      have hkS : k < S.length := by rw [← hXl.out]; exact hlt
      have hXr : shSm.R wr (.slice va N vcp) X := hX.out.keepS hM.out.k (fun b hb e => hsep.out (fun h => by rw [h] at hkS; exact absurd hkS (by simp)) b e hb)
      obtain ⟨g, o, c', hv, he⟩ := hXr.elem hkX
      rw [hN.out] at hv
      cases hv
      have hst := T.start_take S k hkS
      have hsi := T.startIds_take S k hkS
      have hsk : S[k] = X[k].p := by simp [← hXS.out]
      have hfk := hfit.out _ (List.getElem_mem hkS)
      rw [hsk] at hst hsi hfk
      obtain ⟨⟨y0, y1, y2, y3, ⟨y4, y5, y6⟩⟩, hy⟩ : ∃ y, X[k] = y := ⟨_, rfl⟩
      rw [hy] at he hst hsi hfk
      have e0 := he 0 _ rfl
      have e1 := he 1 _ rfl
      have e2 := he 2 _ rfl
      have e3 := he 3 _ rfl
      have e4 := he 4 _ rfl
      simp only [shSm, Nat.add_zero, slv] at e0 e1 e2 e3 e4
      simp only [SmV.p] at hst hsi hfk
      have hoK := ho.out.start (S.take k)
      have hkk : k0 + (S.take k).length ≤ 10000 := by rw [List.length_take]; have := hlen.out; omega
      obtain ⟨TK, hTK⟩ : ∃ t, T.start (S.take k) = t := ⟨_, rfl⟩
      have hTKm : TK.m = T.m := by rw [← hTK]; exact Tc.start_m _ _
      rw [hTK] at hT hst hsi hoK
      have hAl : Ak.length ≤ 10000 := by have h1 := hT.out.len; have h2 := hoK.al; omega
      have hs64 : -9223372036854775808 ≤ TK.s + 1 ∧ TK.s + 1 ≤ 9223372036854775807 := by have h1 := hoK.s0; have h2 := hoK.s1; omega
      obtain ⟨hb1, hb2, hkA, hzA⟩ := blks2 wr (.cells #[.int .i64 y0, .int .u64 y1, .bool y2, .int .i64 y3, .slice y4 y5 y6] tSm) (.cells #[.int .i64 y0, .int .u64 y1, .int .i64 0] tN)
      have hTA := hT.out.keeps hkA
      have hcb := fun (W : World) (hk : Keeps [] wr W) => begins_c W B bp bm vc Ak TK (hT.out.keeps hk) (y0, y1, 0) (by omega)
      replace hb1 := Lib.hid hb1
      replace hb2 := Lib.hid hb2
      replace hkA := Lib.hid hkA
      replace hcb := Lib.hid hcb
      replace hst := Lib.hid hst
      replace hsi := Lib.hid hsi
      replace hfk := Lib.hid hfk
      replace hoK := Lib.hid hoK
      replace hTK := Lib.hid hTK
      replace hTKm := Lib.hid hTKm
      replace hTA := Lib.hid hTA
      replace hy := Lib.hid hy
      replace hsk := Lib.hid hsk
      replace hXr := Lib.hid hXr
      clear he
      go_upto_region 6 with fail
      generalize ((wr.alloc (.cells #[.int .i64 y0, .int .u64 y1, .bool y2, .int .i64 y3, .slice y4 y5 y6] tSm)).alloc (.cells #[.int .i64 y0, .int .u64 y1, .int .i64 0] tN)) = WA at *
      obtain ⟨P1, hP1⟩ : ∃ X, wr.heap.size = X := ⟨_, rfl⟩
      rw [hP1] at hb1 hb2 hzA ⊢
      have hltr := hT.out.lt
      rw [hP1] at hltr
      replace hP1 := Lib.hid hP1
      obtain ⟨n0, n1, n2, nf, nl⟩ := cl3 hb2.out
      obtain ⟨fb, hfb⟩ : ∃ b, TK.begins (y0, y1, 0) = b := ⟨_, rfl⟩
      simp only [hfb, ptrV, tV] at hcb
      replace hfb := Lib.hid hfb
      go_wp2_with fail
      refine (hcb.out WA hkA.out).mono ?_
      rintro e w1 ⟨rfl, hk1⟩
      clear n0 n1 n2 nf nl e0 e1 e2 e3 e4 hcb
      have hkr1 := Lib.hid (hkA.out.trans hk1)
      have hb2' := Lib.hid ((hk1.block _ (lt_of_blk hb2.out) (by simp)).trans hb2.out)
      clear hk1
      cases fb with
      | true =>
        have e1 : TK.start1 (y0, y1) = TK := by unfold Tc.start1; rw [if_pos hfb.out]
        have e2 : TK.ids1 (y0, y1) = [] := by unfold Tc.ids1; rw [if_pos hfb.out]
        have hst2 := hst.out
        have hsi2 := hsi.out
        rw [e1] at hst2
        rw [e2, List.append_nil] at hsi2
        have hO2 : Hid (shId.O w1 w.heap.size tId (.slice oa NN oc) (T.startIds (S.take (k + 1)))) := Lib.hid (by rw [hsi2]; exact hO.out.keeps hkr1.out)
        have hT2 : Hid (TcM w1 B bp bm vc Ak (T.start (S.take (k + 1)))) := Lib.hid (by rw [hst2]; exact hT.out.keeps hkr1.out)
        have hM2 : Hid (Mv (ownTc bp bm vc A) (ownTc bp bm vc Ak) w w1) := Lib.hid (hM.out.trans (Mv.nil hkr1.out))
        clear e1 e2 hst2 hsi2
        go_wp2
        go_roundw
        case rel => exact ⟨k + 1, Ak, rfl, by omega, hO2, hT2, hM2⟩
        case measure => simp [intOf]; omega
      | false =>
        have e1 : TK.start1 (y0, y1) = { TK with s := TK.s + 1, act := TK.act ++ [Tr.new TK.m (TK.s + 1) (y0, y1, 0)] } := by unfold Tc.start1; rw [if_neg (by show ¬ TK.begins (y0, y1, 0) = true; rw [hfb.out]; decide)]
        have e2 : TK.ids1 (y0, y1) = [(TK.m, TK.s + 1)] := by unfold Tc.ids1; rw [if_neg (by show ¬ TK.begins (y0, y1, 0) = true; rw [hfb.out]; decide)]
        have hst2 := hst.out
        have hsi2 := hsi.out
        rw [e1] at hst2
        rw [e2] at hsi2
        replace hst2 := Lib.hid hst2
        replace hsi2 := Lib.hid hsi2
        clear e1 e2 hst hsi
        have hT1 := hT.out.keeps hkr1.out
        obtain ⟨c0, c1, c2, c3⟩ := hT1.cells
        have hbf : ∀ o, w1.frozen? ⟨bp, o, none⟩ = false := fun o => by simp [World.frozen?, hT1.blk]
        have hbl := hT1.lt.1
        have hset := hT1.setS (w' := w1.setCell ⟨bp, 1, none⟩ (.int .i64 (TK.s + 1))) (TK.s + 1) ((Keeps.refl [bp] w1).setCell (.inr (by simp)) _) (setCs hT1.blk 1 _)
        have hks := (Keeps.refl [bp] w1).setCell (p := ⟨bp, 1, none⟩) (.inr (by simp)) (.int .i64 (TK.s + 1))
        replace hset := Lib.hid hset
        replace hks := Lib.hid hks
        replace hT1 := Lib.hid hT1
        go_upto_region 8 with fail
        generalize (w1.setCell ⟨bp, 1, none⟩ (.int .i64 (TK.s + 1))) = w2 at *
        obtain ⟨hT2, hM2⟩ := hset.out
        clear hset c0 c1 c2 c3 hbf hbl
        obtain ⟨c0, c1, c2, c3⟩ := hT2.cells
        have hb3 := (hks.out.block _ (lt_of_blk hb2'.out) (by simp; omega)).trans hb2'.out
        have hk12 := hks.out.size
        have hkr1s := hkr1.out.size
        have hP1' := hP1.out
        obtain ⟨X2, hX2⟩ : ∃ X, w2.heap.size = X := ⟨_, rfl⟩
        have hbX : bp ≠ X2 := by have := hT2.lt; omega
        have hX2n : P1 + 1 < X2 := by have := lt_of_blk hb3; omega
        simp only at c0 c1
        replace hb3 := Lib.hid hb3
        replace hT2 := Lib.hid hT2
        replace hM2 := Lib.hid hM2
        replace hX2 := Lib.hid hX2
        clear hk12 hkr1s hP1'
        refine Free.wp_region_chain (fun i => i == 9 || i == 10) (fun i => true) (fun j b => j = 10 ∧ b = X2) (by kernel_rfl) (by kernel_rfl) (by kernel_rfl) ?_
        (repeat (first | (apply Free.cw_pure rfl rfl; (intro w'; go_simp <;> exact rfl); go_frame) | (apply Free.cw_steady rfl rfl rfl; (intro w' hS; have q0 := Free.sx_cell hS c0 (fun _ _ hT => hbX hT.2); have q1 := Free.sx_cell hS c1 (fun _ _ hT => hbX hT.2); go_simp <;> exact rfl); go_frame) | (refine Free.cw_skip rfl ?_; go_frame)))
        refine Free.cw_loud rfl rfl (fun K hK => ?_)
        go_wp2
        refine hK _ _ rfl (Free.KeepsP.alloc _ _ _) ?_
        clear hK K
        (repeat (apply Free.cw_pure rfl rfl; (intro w'; go_simp <;> exact rfl); go_frame))
        refine Free.cw_loud rfl rfl (fun K hK => ?_)
        have hbI : ((w2.alloc (.cells #[.int .i64 0, .int .i64 0] tId)).drew).heap[w2.heap.size]? = _ := heap_alloc_new w2 (.cells #[.int .i64 0, .int .i64 0] tId)
        have hk9 : Keeps [] w2 ((w2.alloc (.cells #[.int .i64 0, .int .i64 0] tId)).drew) := ((Keeps.refl [] w2).alloc _).drew
        generalize ((w2.alloc (.cells #[.int .i64 0, .int .i64 0] tId)).drew) = W9 at *
        rw [hX2.out] at hbI ⊢
        obtain ⟨m0, m1, mf, ml⟩ := cl2 hbI
        obtain ⟨hs1, hs2⟩ := sc2 (.int .i64 TK.m) (.int .i64 (TK.s + 1)) hbI
        go_wp2
        refine hK _ _ rfl (Free.KeepsP.of hs2 (fun b hb => ⟨trivial, by simpa using hb⟩)) ?_
        clear hK K m0 m1 mf ml c0 c1 c2 c3
        generalize ((W9.setCell ⟨X2, 0, none⟩ (.int .i64 TK.m)).setCell ⟨X2, 1, none⟩ (.int .i64 (TK.s + 1))) = W3 at *
        have hk23 : Keeps [] w2 W3 := hk9.fresh hs2 (fun b hb => .inr (by simp at hb; subst hb; exact Nat.le_of_eq hX2.out))
        have hT3 := hT2.out.keeps hk23
        have hb33 := (hk23.block _ (lt_of_blk hb3.out) (by simp)).trans hb3.out
        obtain ⟨c0, c1, c2, c3⟩ := hT3.cells
        obtain ⟨n0, n1, n2, nf, nl⟩ := cl3 hb33
        obtain ⟨m0, m1, mf, ml⟩ := cl2 hs1
        have hne1 := hT3.ne
        have hne2 : P1 + 1 ≠ bm := by omega
        have hne3 : X2 ≠ bm := by omega
        have hl3 := hT3.len
        replace hs1 := Lib.hid hs1
        replace hk23 := Lib.hid hk23
        replace hT3 := Lib.hid hT3
        replace hb33 := Lib.hid hb33
        clear hbI hk9 hs2
        (repeat (apply Free.cw_pure rfl rfl; (intro w'; go_simp <;> exact rfl); go_frame))
        refine Free.cw_nil ?_
        go_upto_region 9 with fail
        refine Free.wp_region_chain (fun i => i == 7 || i == 8) (fun i => true) (fun j b => j = 8 ∧ b = bm) (by kernel_rfl) (by kernel_rfl) (by kernel_rfl) ?_
        (repeat (first | (apply Free.cw_pure rfl rfl; (intro w'; go_simp <;> exact rfl); go_frame) | (apply Free.cw_steady rfl rfl rfl; (intro w' hS; have q0 := Free.sx_cell hS c2 (fun _ _ hT => hne1 hT.2); have q1 := Free.sx_cell hS n0 (fun _ _ hT => hne2 hT.2); have q2 := Free.sx_cell hS n1 (fun _ _ hT => hne2 hT.2); have q3 := Free.sx_cell hS n2 (fun _ _ hT => hne2 hT.2); have q4 := Free.sx_cell hS m0 (fun _ _ hT => hne3 hT.2); have q5 := Free.sx_cell hS m1 (fun _ _ hT => hne3 hT.2); go_simp <;> exact rfl); go_frame) | (refine Free.cw_skip rfl ?_; go_frame)))
        refine Free.cw_loud rfl rfl (fun K hK => ?_)
        go_wp2_with fail
        refine (new_c W3.drew TK.m (TK.s + 1) (y0, y1, 0) (by rw [hTKm.out]; exact hm.out) hfk.out.1 hfk.out.2).mono ?_
        rintro e w5 ⟨bt, bn, vo, rfl, hT5, hk5⟩
        refine hK _ _ rfl (Free.KeepsP.of hk5 (by simp)) ?_
        clear hK K
        have hk35 := (Keeps.refl [] W3).drew.trans hk5
        have hmp5 := hT3.out.mp.keeps ktId hk35
        have hget : MapS.get (TK.m, TK.s + 1) (Ak.map (fun a => (a.t.idp, a.bt))) = none := MapS.get_none.2 (fun p hp e => by
          obtain ⟨a, ha, rfl⟩ := List.mem_map.1 hp
          have h1 := (hoK.out.is a.t (by rw [← hT.out.ac]; exact List.mem_map.2 ⟨a, ha, rfl⟩)).2
          have h2 := (Prod.mk.inj e).2
          omega)
        obtain ⟨w6, hrun, hM6, hk56⟩ := MapS.M.putNew ktId Tryz.underlying78 hmp5 (k := (TK.m, TK.s + 1)) ⟨by rw [hTKm.out]; exact hm.out, w64_iff.2 hs64⟩ hget (by rw [List.length_map]; unfold maxLen; omega) bt
        have hadd := hT3.out.add hk35 (B1 := W3.drew.heap.size) (Nat.le_refl _) hT5 hM6 hk56
        simp only [ktId, ptrV] at hrun
        replace hadd := Lib.hid hadd
        replace hk35 := Lib.hid hk35
        replace hk56 := Lib.hid hk56
        clear hT5 hk5 hmp5 hget hM6
        (repeat (apply Free.cw_pure rfl rfl; (intro w'; go_simp <;> exact rfl); go_frame))
        refine Free.cw_loud rfl rfl (fun K hK => ?_)
        go_wp2
        refine hK _ _ rfl (Free.KeepsP.of hk56.out (fun b hb => ⟨trivial, by simpa using hb⟩)) ?_
        clear hK K hrun
        (repeat (apply Free.cw_pure rfl rfl; (intro w'; go_simp <;> exact rfl); go_frame))
        refine Free.cw_nil ?_
        clear c0 c1 c2 c3 n0 n1 n2 nf nl m0 m1 mf ml
        have hbI6 := (hk56.out.block X2 (lt_of_blk ((hk35.out.block _ (lt_of_blk hs1.out) (by simp)).trans hs1.out)) (by simpa using hne3)).trans ((hk35.out.block _ (lt_of_blk hs1.out) (by simp)).trans hs1.out)
        obtain ⟨m0, m1, mf, ml⟩ := cl2 hbI6
        have hMr := (Mv.nil hkr1.out).trans (hM2.out.trans ((Mv.nil hk23.out).trans hadd.out.2))
        have hO6 := hO.out.keepS hMr.k (fun b hb e => by obtain ⟨cs, hc⟩ := hO.out.tag b e; exact (hT.out.tag hb).not (by decide) cs _ hc)
        have hMw := hM.out.trans hMr
        have hmade := Lib.hid (Sh.R.made shId w6 [(TK.m, TK.s + 1)] #[.int .i64 TK.m, .int .i64 (TK.s + 1)] tId rfl (by simp [maxLen]) 1 rfl)
        have hkr6 := (Keeps.refl [] w6).alloc (.cells #[.int .i64 TK.m, .int .i64 (TK.s + 1)] tId)
        have hO1 := Lib.hid (hO6.keeps hkr6)
        have hT8 := Lib.hid (hadd.out.1.keeps hkr6)
        have hM8 := Lib.hid (hMw.trans (Mv.nil hkr6))
        clear hMr hO6 hMw hkr6
        have hsz := hM8.out.k.size
        go_wp2_with (first
          | (at_builtin; (refine Sh.wpl_app shId w.heap.size infoId rfl Tryz.underlying47 (.slice oa NN oc) (.slice (some ⟨w6.heap.size, 0, none⟩) 1 1) (T.startIds (S.take k)) [(TK.m, TK.s + 1)] rfl _ _ rfl rfl rfl ?hA ?hB ?hC ?hD ?_); (case hA => exact hO1.out); (case hB => exact hmade.out); (case hC => rw [hNN.out]; simp only [List.length_singleton]; omega); (case hD => exact hsz); intro v7 w7 hO7 hG7)
          | fail)
        have hK7 := hG7.keepsO
        have hI7 := hK7.ki (fun b hb cs f e => by obtain ⟨cs', hc⟩ := hO1.out.tag b (by simpa using hb); exact tag_ne hc e (by decide) rfl)
        have hT9 := hT8.out.keep hK7 hI7 (fun b hb => by
          obtain ⟨cs', hc⟩ := hO1.out.tag b (by simpa using hb)
          exact ⟨fun hm => (hT8.out.tag hm).not (by decide) cs' _ hc, fun cs f => ⟨fun g => tag_ne hc g (by decide) rfl, fun g => tag_ne hc g (by decide) rfl, fun g => tag_ne hc g (by decide) rfl⟩⟩)
        have hM9 : Mv (ownTc bp bm vc A) _ w w7 := ⟨hM8.out.k.fresh hK7 (fun b hb => .inr (hO1.out.ge b (by simpa using hb))), hM8.out.i.trans hI7, hM8.out.s⟩
        rw [← hsi2.out] at hO7
        rw [← hst2.out] at hT9
        refine ⟨⟨k + 1, _, rfl, by omega, Lib.hid hO7, Lib.hid hT9, Lib.hid hM9⟩, ?_⟩
        simp [intOf]; omega
    · have hlt2 : ¬ ((k : Int) < N) := by omega
      have hlt3 : decide ((k : Int) < (N : Int)) = false := by simp; omega
      have hkN : S.take k = S := by rw [List.take_of_length_le (by rw [← hXl.out]; omega)]
      rw [hkN] at hO hT
      replace hkN := Lib.hid hkN
      go_wp2
      go_ret
      exact ⟨_, Ak, rfl, hO.out, hT.out, hM.out⟩
end Go.Proofs.YtpobepninifenaaGreat

namespace Go.Proofs.YtpobepninifenaaGreat
namespace MapS
open Go Go.RowKit
variable {P : Program} {kt t e : TypeId} {κ : Type} [DecidableEq κ] {α : Type} (K : KT P kt κ) {vf : α → Value} {L : Es κ α} {w : World} {b : Nat}
section
variable {F : Fence} {nF : Nat} {ops : Array Oper} {rest : List Oper} {o : Oper} {a : Act} {Q : Exit → Act → World → Prop}
theorem wplIn_range (hg : o.guard = none) (m : Operand) (hop : o.op = Op.range t m) (ht : P.underlying t = some (.map kt e)) (hm : a.eval m = .map (some b)) (h : M K vf w b L)
    (hK : ∀ w', Rg K vf w' b w.heap.size L L → w.grownBy w' none → w'.heap.size = w.heap.size + 1 → wpListIn F nF P ops Q rest (a.put o.dst (.pointer (some ⟨w.heap.size, 0, none⟩))) w') : wpListIn F nF P ops Q (o :: rest) a w := by
  obtain ⟨⟨D, h1, h2, h3, h4⟩, hnd, ho⟩ := h
  refine wpListIn_range_own w hg m t hop kt e K.law ht raw b L.length D hm h1 (fun w' hr hg2 hs => hK w' ⟨⟨_, _, _, _, hr, h3, fun x l hl => h3.hs K hl, h4⟩, hnd, hnd, fun _ h => h, ho⟩ hg2 hs)
theorem wplIn_next (hg : o.guard = none) (it : Operand) (hop : o.op = Op.next it false) {r : Nat} {R : Es κ α} (hit : a.eval it = .pointer (some ⟨r, 0, none⟩)) (h : Rg K vf w b r L R)
    (hDone : R = [] → wpListIn F nF P ops Q rest (a.put o.dst (.tuple #[.bool false])) w)
    (hMore : ∀ (x : κ) (u : α) (R' : Es κ α) (w' : World), K.ok x → get x L = some u → (x, u) ∈ R → R.Perm ((x, u) :: R') → Rg K vf w' b r L R' → w.grownBy w' (some r) → w'.heap.size = w.heap.size → w'.rangeLeft b r < w.rangeLeft b r →
      (Instr.entry (.pointer (some ⟨r, 0, none⟩))).run P w' = .ok (.tuple #[K.kv x, vf u]) w' → wpListIn F nF P ops Q rest (a.put o.dst (.tuple #[.bool true, K.kv x, vf u])) w') : wpListIn F nF P ops Q (o :: rest) a w := by
  obtain ⟨⟨n, D, left, cnt, hr, hR, hl, hdm⟩, hnd, hnr, hsub, hok⟩ := h
  refine wpListIn_next_ranges w hg it hop kt K.law raw id id (fun key _ _ => ⟨key, rfl⟩) (fun v _ _ => ⟨v, rfl⟩) b r n D left cnt hit hr ?_ ?_
  · intro _ h0
    refine hDone ?_
    cases R with
    | nil => rfl
    | cons p t =>
      obtain ⟨l, hl'⟩ := K.key p.1 (hok p (hsub p (by simp)))
      have := hl p.1 l hl'
      rw [h0 l] at this
      simp [get] at this
  · intro key c kl y w' cnt' hkey hlk hv hat hr' hcl hg2 hs hen
    obtain ⟨x, hkx, _⟩ := hdm kl hlk
    obtain rfl : key = K.kv x := K.law.inj hkey hkx
    replace hkey := hkx
    have hlx := hl x kl hkey
    rw [hlk] at hlx
    obtain ⟨u, hu⟩ := Option.isSome_iff_exists.1 hlx.symm
    have hum := get_mem hu
    have hgL := get_of_mem hnd (hsub _ hum)
    have hc : c = vf u := by
      simp only [raw, id, Option.some.injEq] at hv
      have h1 := hat (.held c)
      rw [(hR.yes K hkey hgL).2] at h1
      rw [← hv] at h1
      cases h1; rfl
    subst hc
    have hp : R.Perm ((x, u) :: del x R) := by
      have hnk : ∀ {S : Es κ α}, ND S → (x, u) ∈ S → S.Perm ((x, u) :: del x S) := by
        intro S
        induction S with
        | nil => intro _ h; simp at h
        | cons q s ih =>
          intro hn hm
          obtain ⟨n1, n2⟩ := List.nodup_cons.1 hn
          rcases List.mem_cons.1 hm with rfl | hm
          · have hself : del x s = s := List.filter_eq_self.2 (fun p hp => by
              have : p.1 ≠ x := fun e => n1 (List.mem_map.2 ⟨p, hp, e⟩)
              simp [this])
            have : del x ((x, u) :: s) = s := by
              unfold del at hself ⊢
              rw [List.filter_cons_of_neg (by simp)]; exact hself
            rw [this]
          · have hqx : q.1 ≠ x := fun e => n1 (List.mem_map.2 ⟨(x, u), hm, e.symm⟩)
            have : del x (q :: s) = q :: del x s := by unfold del; rw [List.filter_cons_of_pos (by simp [hqx])]
            rw [this]
            exact ((ih n2 hm).cons q).trans (List.Perm.swap _ _ _)
      exact hnk hnr hum
    refine hMore x u (del x R) w' ?_ hgL hum hp ⟨⟨n, D, _, cnt', hr', hR, fun z l hz => ?_, fun l hl' => ?_⟩, hnd, nd_del hnr, fun p hm => hsub p (List.mem_filter.1 hm).1, hok⟩ hg2 hs (by rw [hr'.left_eq, hr.left_eq]; exact hcl) hen
    · exact hok _ (hsub _ hum)
    · show (left l && !l.sameKey kl) = _
      rw [get_del]
      by_cases e : z = x
      · subst e
        rw [hkey] at hz; cases hz
        rw [if_pos rfl]
        simp [WideAt.sameKey_self (K.law.key hkey)]
      · have hne : l ≠ kl := fun e' => by subst e'; exact e (K.inj _ _ (K.law.inj hz hkey))
        rw [if_neg e, hl z l hz]
        simp [Maps.sameKey_ne hne]
    · simp only [Bool.and_eq_true, Bool.not_eq_true'] at hl'
      obtain ⟨z, h5, h6⟩ := hdm l hl'.1
      refine ⟨z, h5, ?_⟩
      rw [get_del, if_neg (fun e => ?_)]
      · exact h6
      · subst e
        rw [hkey] at h5; cases h5
        rw [WideAt.sameKey_self (K.law.key hkey)] at hl'
        cases hl'.2
end
variable {w' : World} {r : Nat} {R : Es κ α} {K}
theorem Rg.of_walks (h : Rg K vf w b r L R) (hk : KeepsWalks w w') : Rg K vf w' b r L R := by
  obtain ⟨⟨n, D, left, cnt, hr, h1⟩, h2, h3, h4, h5⟩ := h
  exact ⟨⟨n, D, left, cnt, hr.of_walks hk, h1⟩, h2, h3, h4, h5⟩
theorem Rg.left_walks (h : Rg K vf w b r L R) (hk : KeepsWalks w w') : w'.rangeLeft b r = w.rangeLeft b r := by
  obtain ⟨⟨n, D, left, cnt, hr, h1⟩, h2, h3, h4, h5⟩ := h
  exact (hr.of_walks hk).left_eq.trans hr.left_eq.symm
theorem Rg.left_kept {S : List Nat} (h : Rg K vf w b r L R) (hk : Keeps S w w') (hb : b ∉ S) (hr : r ∉ S) : w'.rangeLeft b r = w.rangeLeft b r := by
  obtain ⟨hl1, hl2, _⟩ := h.lt
  unfold World.rangeLeft
  rw [hk.block b hl1 hb, hk.block r hl2 hr]
theorem Rg.walk (h : Rg K vf w b r L R) : ∃ o, w.heap[r]? = some o ∧ o.isWalk = true := by
  obtain ⟨⟨n, D, left, cnt, hr, h1⟩, h2⟩ := h
  exact hr.iter_walk
end MapS
end Go.Proofs.YtpobepninifenaaGreat

namespace Go.Proofs.YtpobepninifenaaGreat
open Go Go.RowKit Go.Maps
attribute [local go_sem] Oper.semAt_some
theorem lt_of_block {w : World} {b : Nat} {o : Obj} (h : w.heap[b]? = some o) : b < w.heap.size := lt_of_blk h
/-- What a round leaves as it is: some blocks, and all maps and iterators. -/
def KpS (S : List Nat) (A B : World) : Prop := (∀ b ∈ S, B.heap[b]? = A.heap[b]?) ∧ KeepsWalks A B
theorem kpS_t {S : List Nat} {A B C : World} (h : KpS S A B) (k : KpS S B C) : KpS S A C := ⟨fun b hb => (k.1 b hb).trans (h.1 b hb), h.2.trans k.2⟩
theorem kpS_b {S : List Nat} {w : World} (hS : ∀ b ∈ S, b < w.heap.size) (W : World) (l : Nat) (o o' : Obj) (hl : w.heap.size ≤ l) (h : W.heap[l]? = some o) (_ : o.isCells = false) (hw : o.isWalk = false) : KpS S W (W.putObj l o') :=
  ⟨fun b hb => World.putObj_heap_other (by have := hS b hb; omega), KeepsWalks.putObj _ h hw⟩
theorem cell1 {w : World} {b : Nat} {x0 : Value} {t : TypeId} (h : w.heap[b]? = some (.cells #[x0] t (0, 0))) : w.cell? ⟨b, 0, none⟩ = some x0 ∧ w.frozen? ⟨b, 0, none⟩ = false := ⟨by simp [World.cell?, h], by simp [World.frozen?, h]⟩
theorem cell_two_new (W : World) (a b : Value) (t : TypeId) : ∀ j u, ([a, b] : List Value)[j]? = some u → (W.alloc (.cells #[a, b] t)).cell? ((⟨W.heap.size, 0, none⟩ : Addr).add j) = some u := by
  intro j u hj
  rw [WideShapes.add_plain, World.cell?_alloc_mark, Nat.zero_add]
  match j, hj with
  | 0, hj => simpa using hj
  | 1, hj => simpa using hj
def keyI (T : List (Idp × Nat)) : List Idp := T.map (·.1)
set_option maxRecDepth 100000 in
set_option maxHeartbeats 4000000 in
theorem keys1_stops (n Bm bm : Nat) (S : List Nat) (T : List (Idp × Nat)) (w0 : World) (hn : 2 ≤ n)
    (hBm : w0.cell? ⟨Bm, 0, none⟩ = some (.map (some bm))) (hmp : MapS.M ktId ptrV w0 bm T) (hS : Bm ∈ S) (hSlt : ∀ b ∈ S, b < w0.heap.size) :
    SeqStopsK Fence.wide n Tryz.prog 86 #[.pointer (some ⟨Bm, 0, none⟩)] (fun x : Idp => #[ipV x]) (KpS S) (fun ss => ss.Perm (keyI T)) (fun _ => True) T.length w0 := by
  intro l J Jx W hW hJ hJx hY h0
  refine callsIn_of_wp Tryz.func86 rfl trivial ?_ rfl
  simp only [Tryz.ntmps86, List.size_toArray, List.length_cons, List.length_nil, Nat.reduceAdd, Nat.reduceSub, Array.replicate_succ, Array.replicate_zero, List.push_toArray, List.append_toArray, List.nil_append, List.cons_append]
  have c1 := (hW.cell (p := ⟨Bm, 0, none⟩) (lt_of_cell hBm)).trans hBm
  have hMW : MapS.M ktId ptrV W bm T := hmp.keeps ktId (Keeps.of_below hW)
  have hSW : ∀ b ∈ S, W.heap[b]? = w0.heap[b]? := fun b hb => hW.block b (hSlt b hb)
  have hWs := hW.size
  gi_wp2_with (first
    | (gi_at_range; (refine MapS.wplIn_range ktId rfl _ rfl Tryz.underlying78 rfl hMW ?_; intro w1 hrg0 hg0 hs0))
    | gi_in)
  try go_frame
  gi_loopw [6] (fun _ wr => ∃ (ss : List Idp) (R : List (Idp × Nat)), MapS.Rg ktId ptrV wr bm W.heap.size T R ∧ (ss ++ R.map (·.1)).Perm (keyI T) ∧ (∀ b ∈ S, wr.heap[b]? = w0.heap[b]?) ∧ J ss wr)
    (fun _ wr => wr.rangeLeft bm W.heap.size)
  case atStart =>
    exact ⟨[], T, hrg0, by simp only [List.nil_append]; exact List.Perm.refl _, fun b hb => (hg0.block b (by have := hSlt b hb; omega) (by simp)).trans (hSW b hb), hJ [] W w1 none h0 hg0 (fun r e => by cases e)⟩
  case round =>
    obtain ⟨ss, R, hrg, hP, hSr, hJs⟩ := hrel
    gi_wp2_with (first
      | (gi_at_next; refine MapS.wplIn_next ktId rfl _ rfl rfl hrg ?_ ?_)
      | gi_in)
    · intro hR0
      subst hR0
      rw [List.map_nil, List.append_nil] at hP
      replace hP := Lib.hid hP
      gi_wp2
      go_end0
      exact ⟨⟨_, rfl⟩, .inl ⟨ss, hP.out, hJs⟩⟩
    · intro x0 x1 u R' w2 hx hgx hm hpR hrg2 hg2 hs2 hlt hen
      have hS2 : ∀ b ∈ S, w2.heap[b]? = w0.heap[b]? := fun b hb => (hg2.block b (by have := hSlt b hb; have := hrg.lt; omega) (fun e => by cases e; have := hSlt _ hb; omega)).trans (hSr b hb)
      have hJ2 : J ss w2 := hJ ss wr w2 (some W.heap.size) hJs hg2 (fun r e => by cases e; exact ⟨Nat.le_refl _, hrg.walk⟩)
      have hP2 : (ss ++ [(x0, x1)] ++ R'.map (·.1)).Perm (keyI T) := by
        refine List.Perm.trans ?_ hP
        rw [List.append_assoc]
        exact ((hpR.map (·.1)).symm).append_left ss
      have hlen : ss.length < T.length := by
        have := hP2.length_eq
        simp [keyI] at this; omega
      have hkA : Keeps [] w2 (w2.alloc (.cells #[.int .i64 x0, .int .i64 x1] tId)) := (Keeps.refl _ _).alloc _
      have hSA : ∀ b ∈ S, (w2.alloc (.cells #[.int .i64 x0, .int .i64 x1] tId)).heap[b]? = w0.heap[b]? := fun b hb => (Below.heap_alloc _ _ _ (by have := hSlt b hb; have := hrg2.lt; omega)).trans (hS2 b hb)
      have hJA : J ss (w2.alloc (.cells #[.int .i64 x0, .int .i64 x1] tId)) := hJ ss w2 _ none hJ2 (World.grownBy_alloc _ _ _) (fun r e => by cases e)
      have hrgA := hrg2.keeps hkA
      have hlA := hrg2.left_kept hkA (by simp) (by simp)
      obtain ⟨fn, tmps, assign, body, hy, hR⟩ := hY ss (x0, x1) _ hJA hlen
      simp only [ktId, ipV, ptrV] at hen ⊢
      replace hP2 := Lib.hid hP2
      replace hrgA := Lib.hid hrgA
      replace hP := Lib.hid hP
      replace hpR := Lib.hid hpR
      clear hs2 hx hgx hm hrg2
      gi_wp2_with fail
      refine ⟨fun _ => by omega, ?_⟩
      refine hR.mono ?_
      rintro e W4 (⟨rfl, hJ4, hk4⟩ | ⟨rfl, hJx4⟩)
      · have hrg4 := hrgA.out.of_walks hk4.2
        have hl4 := hrgA.out.left_walks hk4.2
        have hS4 : ∀ b ∈ S, W4.heap[b]? = w0.heap[b]? := fun b hb => (hk4.1 b hb).trans (hSA b hb)
        gi_wp2
        go_roundw
        case rel => exact ⟨ss ++ [(x0, x1)], R', hrg4, hP2.out, hS4, hJ4⟩
        case measure => rw [hl4, hlA]; exact hlt
      · gi_wp2
        refine bodyPost_ret (results_none rfl _ _ _) rfl ?_
        exact ⟨⟨_, rfl⟩, .inr ⟨_, trivial, hJx4⟩⟩
abbrev KeysSt (w : World) (lb : Array Value) (S : List Nat) (Sel : List Idp → Prop) (N : Nat) : Prop :=
  SeqStopsK Fence.wide 7 Tryz.prog 86 lb (fun x : Idp => #[ipV x]) (KpS S) Sel (fun _ => True) N w
def AppSeqPost (w : World) (Sel : List Idp → Prop) (e : Ending) (w' : World) : Prop :=
  ∃ v xs, e = .returned v ∧ Sel xs ∧ shId.O w' (w.heap.size + 1) tId v xs ∧ Keeps [] w w'
set_option maxRecDepth 100000 in
set_option maxHeartbeats 4000000 in
theorem appSeq_c (w : World) (lb : Array Value) (S : List Nat) (Sel : List Idp → Prop) (N : Nat) (hst : KeysSt w lb S Sel N) (hS : ∀ b ∈ S, b < w.heap.size) (hN : N ≤ 1000000) :
    Calls Tryz.prog 126 #[.slice none 0 0, .func (.func 86) #[] lb] w (AppSeqPost w Sel) := by
  have hk1 := (Keeps.refl [] w).alloc (.cells #[.slice none 0 0] 47)
  have hX1 := heap_alloc_new w (.cells #[.slice none 0 0] 47)
  have hz1 : (w.alloc (.cells #[.slice none 0 0] 47)).heap.size = w.heap.size + 1 := by simp
  have hbw : Below w.heap.size w (w.alloc (.cells #[.slice none 0 0] 47)) := (Below.refl _ _).alloc (Nat.le_refl _) _
  obtain ⟨B, hB⟩ : ∃ B, w.heap.size = B := ⟨_, rfl⟩
  unfold AppSeqPost
  rw [hB] at hX1 hz1 hbw hS ⊢
  obtain ⟨W1, hW1⟩ : ∃ W1, w.alloc (.cells #[.slice none 0 0] 47) = W1 := ⟨_, rfl⟩
  rw [hW1] at hk1 hX1 hz1 hbw
  replace hW1 := Lib.hid hW1
  replace hB := Lib.hid hB
  replace hz1 := Lib.hid hz1
  replace hst := Lib.hid hst
  refine (callsIn_wide (n := 8)).1 ?_
  refine callsIn_of_wp_marks Tryz.func126 rfl trivial ?_ rfl
  simp only [Tryz.ntmps126, List.size_toArray, List.length_cons, List.length_nil, Nat.reduceAdd, Nat.reduceSub, Array.replicate_succ, Array.replicate_zero, List.push_toArray, List.append_toArray, List.nil_append, List.cons_append]
  refine wpIn_wide.2 ?_
  go_wp2_with fail
  rw [hB.out, hW1.out]
  refine (wpIn_wide (n := 8)).1 ?_
  refine wpIn_rangeFunc_ownH rfl (by omega) (gf := 86) (lb := lb) rfl trivial (enters_of Tryz.func86 (by kernel_rfl) rfl) hst.out kpS_t (kpS_b (by have := hz1.out; intro b hb; have := hS b hb; omega)) (by rw [hB.out]; exact hbw) (fun _ => rfl)
    (fun pre W => (∃ v, Boxed W B 47 v ∧ W.ownsRow (B + 1) tId 2 v pre.length (shId.cs pre) ∧ True) ∧ (Keeps [] w W ∧ B + 1 ≤ W.heap.size))
    (fun _ _ _ => False) ?hI (fun _ _ _ _ _ hs _ _ => hs) ⟨⟨_, hX1, World.ownsRow_nil _ _ _ _, trivial⟩, hk1, by have := hz1.out; omega⟩
    (fun y a' W => ∃ X, a' = { tmps := List.toArray ((.slice none 0 0 : Value) :: .func (.func 86) #[] lb :: .pointer (some ⟨B, 0, none⟩) :: undef :: .slice none 0 0 :: .pointer (some ⟨X, 0, none⟩) :: .func (.func 86) #[] lb :: ipV y :: undef :: undef :: undef :: undef :: undef :: []), defers := [] } ∧ W.heap[X]? = some (.cells #[.int .i64 y.1, .int .i64 y.2] tId (0, 0)))
    ?hAx ?assign ?body ?done ?stop
  case hI =>
    exact OwnFrom.and (Own.from (holdsRow_own (B + 1) B 47 tId 2 (fun pre : List Idp => pre.length) (fun pre : List Idp => shId.cs pre) (fun _ _ => True)) _) (fun s X Y row hs hg hr => ⟨hs.1.grown hg (fun k e => .inl (by have := (hr k e).1; have := hk1.size; omega)), Nat.le_trans hs.2 hg.size⟩)
  case hAx =>
    rintro y a' _ X Y row ⟨X0, h1, h2⟩ hg hr
    refine ⟨X0, h1, (hg.block X0 (lt_of_blk h2) (fun e => ?_)).trans h2⟩
    obtain ⟨_, o, ho, hc⟩ := hr X0 e.symm
    rw [h2] at ho; cases ho; cases hc
  case assign =>
    rintro l pre ⟨y0, y1⟩ W K hI hK
    have hkA : KeepsOthers W (W.alloc (.cells #[.int .i64 y0, .int .i64 y1] tId)) := KeepsOthers.alloc W _
    have hbA := heap_alloc_new W (.cells #[.int .i64 y0, .int .i64 y1] tId)
    obtain ⟨⟨v, hv, hrow, _⟩, hkW, hBW⟩ := hI
    have hI2 := hK _ (W.alloc (.cells #[.int .i64 y0, .int .i64 y1] tId)) (hkA.from _) ⟨fun b hb => Below.heap_alloc _ _ _ (by have := hS b hb; omega), hkA.walks⟩ ⟨⟨v, hv.alloc _, hrow.alloc _, trivial⟩, hkW.alloc _, by simp; omega⟩ ⟨_, rfl, hbA⟩
    replace hrow := Lib.hid hrow
    replace hv := Lib.hid hv
    clear hK
    gi_wp2
    exact hI2
  case body =>
    rintro l pre ⟨y0, y1⟩ a' W hlw _ ⟨⟨v, hv, hrow, _⟩, hkW, hBW⟩ ⟨X, rfl, hX⟩ hlt
    obtain ⟨i0, hi, hz0, hz1', hz2'⟩ := info_parts infoId
    obtain ⟨x0, xf⟩ := cell1 hv
    obtain ⟨p0, p1, _, _⟩ := cl2 hX
    have hXW := lt_of_block hv
    have hpl : pre.length < 1000000 := by omega
    gi_wp2_with (gi_at_builtin; refine wpListIn_append_own _ rfl _ _ 47 rfl (B + 1) tId i0 (ipV (0, 0)) 2 16 Tryz.underlying47 hi hz0 hz1' hz2' rfl (by decide) _ _ _ rfl (hrow.alloc _) ⟨W.heap.size, 0, none⟩ 1 1 [.int .i64 y0, .int .i64 y1] rfl rfl (cell_two_new _ _ _ _) (by simp [Value.oneCell']) (by unfold Go.maxLen; omega) (by omega) (by simp; omega) ?_; intro v' w1 hown' hgrow _; replace hgrow : (W.alloc (.cells #[.int .i64 y0, .int .i64 y1] tId)).grownBy w1 v.ownBlock := hgrow; have hkA : Keeps v.ownBlock.toList W w1 := ((Keeps.refl _ W).alloc _).grown hgrow (fun k e => .inr (by simp [e])); have hx1 := (hkA.block _ hXW (fun hm => by have := ownBlock_ge hrow _ (by simpa using hm); omega)).trans hv; obtain ⟨c1', f1'⟩ := cell1 hx1; have hsub := (ownBlock_ge hown'); obtain ⟨g', cap', rfl⟩ := ownsRow_succ hown')
    have hgb := hsub g' rfl
    have hkf : Keeps (B :: v.ownBlock.toList) W (w1.setCell ⟨B, 0, none⟩ (.slice (some ⟨g', 0, none⟩) (pre.length + 1) cap')) := (hkA.mono (fun k hk => by simp [hk])).setCell (p := ⟨B, 0, none⟩) (.inr (by simp)) _
    have hnot : ∀ b, b < B → b ∉ B :: v.ownBlock.toList := fun b hb hm => by
      rcases List.mem_cons.1 hm with e | e
      · omega
      · have := ownBlock_ge hrow _ (by simpa using e : v.ownBlock = some b); omega
    have hko : KeepsOthers W (w1.setCell ⟨B, 0, none⟩ (.slice (some ⟨g', 0, none⟩) (pre.length + 1) cap')) := by
      refine ((KeepsOthers.alloc W (.cells #[.int .i64 y0, .int .i64 y1] tId)).trans (KeepsOthers.of_grownBy hgrow fun j o ej hj2 => ?_)).trans (KeepsOthers.setCell _ _ _)
      rcases (hrow.alloc (.cells #[.int .i64 y0, .int .i64 y1] tId)).2 with ⟨rfl, _⟩ | ⟨g, cap, cur, rfl, _, hg, _⟩
      · simp [Value.ownBlock] at ej
      · simp [Value.ownBlock] at ej; subst ej; rw [hg] at hj2; cases hj2; rfl
    have hcs : shId.cs pre ++ [.int .i64 y0, .int .i64 (y1 : Int)] = shId.cs (pre ++ [(y0, y1)]) := by rw [Sh.cs_append]; rfl
    rw [hcs] at hown'
    refine ⟨hko.from _, ⟨fun b hb => hkf.block b (by have := hS b hb; omega) (hnot b (hS b hb)), hko.walks⟩, ⟨_, Boxed.set _ hx1, ?_⟩, ?_, ?_⟩
    · have := hown'.kept (grownBy_setCell' w1 B (.slice (some ⟨g', 0, none⟩) (pre.length + 1) cap')) (.inr (fun e => by simp [Value.ownBlock] at e; omega))
      simpa using this
    · exact ((hkW.alloc _).grown hgrow (fun k e => .inl (by have := ownBlock_ge hrow _ e; have := hB.out; omega))).setCell (p := ⟨B, 0, none⟩) (.inl (by have := hB.out; show _ ≤ B; omega)) _
    · have := hkf.size; omega
  case done =>
    rintro D xs W hD hsel ⟨⟨v, hv, hrow, _⟩, hkW, hBW⟩ hK
    obtain ⟨x0, xf⟩ := cell1 hv
    replace hsel := Lib.hid hsel
    go_wp2
    refine ⟨by simp, .inl ⟨_, _, rfl, run_takeDeferred hK, ?_⟩⟩
    refine ⟨_, results_tmp rfl _ _ _, ?_⟩
    exact ⟨v, xs, rfl, hsel.out, ownsRow_putObj hrow (.deferred none) hK rfl, hkW.grown (grownBy_putObj' _ _ _) (fun k e => .inl (by cases e; have := hk1.size; omega))⟩
  case stop =>
    rintro D c pre W _ _ h _
    exact h.elim
set_option maxRecDepth 100000 in
set_option maxHeartbeats 2000000 in
theorem collect_c (w : World) (lb : Array Value) (S : List Nat) (Sel : List Idp → Prop) (N : Nat) (hst : KeysSt w lb S Sel N) (hS : ∀ b ∈ S, b < w.heap.size) (hN : N ≤ 1000000) :
    Calls Tryz.prog 84 #[.func (.func 86) #[] lb] w (AppSeqPost w Sel) := by
  replace hst := Lib.hid hst
  go_enter Tryz.func84, Tryz.ntmps84
  go_wp2_with fail
  refine (appSeq_c w lb S Sel N hst.out hS hN).mono ?_
  rintro e w1 ⟨v, xs, rfl, h1, h2, h3⟩
  replace h1 := Lib.hid h1
  replace h2 := Lib.hid h2
  replace h3 := Lib.hid h3
  go_wp2
  go_ret
  exact ⟨_, xs, rfl, h1.out, h2.out, h3.out⟩
set_option maxRecDepth 100000 in
set_option maxHeartbeats 2000000 in
theorem mapsKeys_c (mb : Nat) (w : World) : Calls Tryz.prog 47 #[.map (some mb)] w fun e w' => e = .returned (.func (.func 86) #[] #[.pointer (some ⟨w.heap.size, 0, none⟩)]) ∧ w' = w.alloc (.cells #[.map (some mb)] 78) := by
  go_enter Tryz.func47, Tryz.ntmps47
  go_wp2
  go_ret
  exact ⟨rfl, rfl⟩
end Go.Proofs.YtpobepninifenaaGreat

namespace Go.Proofs
open Go.Shelf
def Tryz.sortTid_ren : Go.Shelf.Ren := ⟨fun | 6 => 85 | 15 => 128 | 14 => 127 | 28 => 155 | 29 => 156 | 20 => 147 | 21 => 148 | 22 => 149 | 23 => 150 | 24 => 151 | 25 => 152 | 26 => 153 | 27 => 154 | 46 => 166 | 47 => 167 | 48 => 168 | 49 => 169 | 50 => 170 | 57 => 182 | n => n, fun | 22 => 47 | 24 => 39 | 25 => 113 | 3 => 3 | 39 => 219 | 0 => 0 | 53 => 247 | 55 => 34 | 4 => 4 | 46 => 241 | 45 => 240 | 50 => 203 | 5 => 5 | 9 => 9 | 66 => 256 | 70 => 130 | 76 => 267 | 77 => 268 | n => n, fun | n => n⟩
theorem Tryz.sortTid : Go.Proofs.SlLaysF0.n6 Tryz.prog Tryz.sortTid_ren := {
  mixed := by kernel_rfl
  f6 := ⟨Tryz.f85.name, by decide, Tryz.func85.trans (congrArg some (by kernel_rfl))⟩
  f14 := ⟨Tryz.f127.name, by decide, Tryz.func127.trans (congrArg some (by kernel_rfl))⟩
  f15 := Tryz.func128.trans (congrArg some (by kernel_rfl))
  f20 := ⟨Tryz.f147.name, by decide, Tryz.func147.trans (congrArg some (by kernel_rfl))⟩
  f21 := ⟨Tryz.f148.name, by decide, Tryz.func148.trans (congrArg some (by kernel_rfl))⟩
  f22 := ⟨Tryz.f149.name, by decide, Tryz.func149.trans (congrArg some (by kernel_rfl))⟩
  f23 := ⟨Tryz.f150.name, by decide, Tryz.func150.trans (congrArg some (by kernel_rfl))⟩
  f24 := ⟨Tryz.f151.name, by decide, Tryz.func151.trans (congrArg some (by kernel_rfl))⟩
  f25 := ⟨Tryz.f152.name, by decide, Tryz.func152.trans (congrArg some (by kernel_rfl))⟩
  f26 := ⟨Tryz.f153.name, by decide, Tryz.func153.trans (congrArg some (by kernel_rfl))⟩
  f27 := ⟨Tryz.f154.name, by decide, Tryz.func154.trans (congrArg some (by kernel_rfl))⟩
  f28 := Tryz.func155.trans (congrArg some (by kernel_rfl))
  f29 := Tryz.func156.trans (congrArg some (by kernel_rfl))
  f46 := ⟨Tryz.f166.name, by decide, Tryz.func166.trans (congrArg some (by kernel_rfl))⟩
  f47 := Tryz.func167.trans (congrArg some (by kernel_rfl))
  f48 := Tryz.func168.trans (congrArg some (by kernel_rfl))
  f49 := ⟨Tryz.f169.name, by decide, Tryz.func169.trans (congrArg some (by kernel_rfl))⟩
  f50 := ⟨Tryz.f170.name, by decide, Tryz.func170.trans (congrArg some (by kernel_rfl))⟩
  f57 := ⟨Tryz.f182.name, by decide, Tryz.func182.trans (congrArg some (by kernel_rfl))⟩
  t0 := Tryz.underlying0
  a0 := Tryz.isAgg0
  z0 := Tryz.sizeOf0
  v0 := Tryz.zeroValue0
  t3 := Tryz.underlying3
  a3 := Tryz.isAgg3
  z3 := Tryz.sizeOf3
  v3 := Tryz.zeroValue3
  t4 := Tryz.underlying4
  a4 := Tryz.isAgg4
  z4 := Tryz.sizeOf4
  v4 := Tryz.zeroValue4
  t5 := Tryz.underlying5
  a5 := Tryz.isAgg5
  z5 := Tryz.sizeOf5
  v5 := Tryz.zeroValue5
  t9 := Tryz.underlying9
  a9 := Tryz.isAgg9
  z9 := Tryz.sizeOf9
  v9 := Tryz.zeroValue9
  t22 := Tryz.underlying47
  a22 := Tryz.isAgg47
  z22 := Tryz.sizeOf47
  v22 := Tryz.zeroValue47
  t25 := Tryz.underlying113
  a25 := Tryz.isAgg113
  z25 := Tryz.sizeOf113
  v25 := Tryz.zeroValue113
  t39 := Tryz.underlying219
  a39 := Tryz.isAgg219
  z39 := Tryz.sizeOf219
  v39 := Tryz.zeroValue219
  t45 := Tryz.underlying240
  a45 := Tryz.isAgg240
  z45 := Tryz.sizeOf240
  v45 := Tryz.zeroValue240
  t46 := Tryz.underlying241
  a46 := Tryz.isAgg241
  z46 := Tryz.sizeOf241
  v46 := Tryz.zeroValue241
  t50 := Tryz.underlying203
  a50 := Tryz.isAgg203
  z50 := Tryz.sizeOf203
  v50 := Tryz.zeroValue203
  t53 := Tryz.underlying247
  a53 := Tryz.isAgg247
  z53 := Tryz.sizeOf247
  v53 := Tryz.zeroValue247
  t55 := Tryz.underlying34
  a55 := Tryz.isAgg34
  z55 := Tryz.sizeOf34
  v55 := Tryz.zeroValue34
  t66 := Tryz.underlying256
  a66 := Tryz.isAgg256
  z66 := Tryz.sizeOf256
  v66 := Tryz.zeroValue256
  t70 := Tryz.underlying130
  a70 := Tryz.isAgg130
  z70 := Tryz.sizeOf130
  v70 := Tryz.zeroValue130
  t76 := Tryz.underlying267
  a76 := Tryz.isAgg267
  z76 := Tryz.sizeOf267
  v76 := Tryz.zeroValue267
  t77 := Tryz.underlying268
  a77 := Tryz.isAgg268
  z77 := Tryz.sizeOf268
  v77 := Tryz.zeroValue268 }
end Go.Proofs

namespace Go.Proofs.YtpobepninifenaaGreat
open Go.RowKit Go.Sort Go.Shelf Go.Proofs Go

def cfI (x y : Idp) : Int := cI x.2 y.2
theorem ltI_iff (x y : Idp) : ltOf cfI x y = decide (x.2 < y.2) := by
  unfold ltOf cfI
  rw [decide_eq_decide, cI_lt]
theorem swoI : SWO (ltOf cfI) where
  irrefl x := by rw [ltI_iff]; simp
  trans x y z h1 h2 := by
    rw [ltI_iff] at *
    have h1 := of_decide_eq_true h1
    have h2 := of_decide_eq_true h2
    exact decide_eq_true (by omega)
  ntrans x y z h1 h2 := by
    rw [ltI_iff] at *
    have h1 := of_decide_eq_false h1
    have h2 := of_decide_eq_false h2
    exact decide_eq_false (by omega)
set_option maxRecDepth 100000 in
set_option maxHeartbeats 2000000 in
theorem cmpI_c (x y : Idp) (w : World) : Calls Tryz.prog 48 #[ipV x, ipV y] w fun e w' => e = .returned (.int .i64 (cfI x y)) ∧ ∃ q os, w' = grow (w.drewN q) os := by
  obtain ⟨r, hr⟩ : ∃ r, cfI x y = r := ⟨_, rfl⟩
  rw [hr]
  obtain ⟨x0, x1⟩ := x
  obtain ⟨y0, y1⟩ := y
  replace hr := Lib.hid hr
  obtain ⟨b1, b2, hk2, hz2⟩ := blks2 w (.cells #[.int .i64 x0, .int .i64 x1] tId) (.cells #[.int .i64 y0, .int .i64 y1] tId)
  have hgr : (w.alloc (.cells #[.int .i64 x0, .int .i64 x1] tId)).alloc (.cells #[.int .i64 y0, .int .i64 y1] tId) = grow w #[.cells #[.int .i64 x0, .int .i64 x1] tId, .cells #[.int .i64 y0, .int .i64 y1] tId] := by
    rw [alloc_eq_grow, alloc_eq_grow, grow_grow]; rfl
  replace hgr := Lib.hid hgr
  simp only [ipV]
  go_enter Tryz.func48, Tryz.ntmps48
  go_upto_region 1 with fail
  generalize (w.alloc (.cells #[.int .i64 x0, .int .i64 x1] tId)).alloc (.cells #[.int .i64 y0, .int .i64 y1] tId) = W at *
  obtain ⟨p0, p1, pf, pl⟩ := cl2 b1
  obtain ⟨s0, s1, sf, sl⟩ := cl2 b2
  clear b1 b2 hk2 hz2
  go_wp2_with fail
  refine (compareI_c x1 y1 _).mono ?_
  rintro e _ ⟨rfl, rfl⟩
  clear p0 p1 pf pl s0 s1 sf sl
  go_wp2
  go_ret
  exact ⟨by rw [← hr.out]; rfl, 0, _, by rw [hgr.out]; rfl⟩
/-- slices.SortFunc over identities. -/
theorem sortI_c (w : World) (B : Nat) (v : Value) (L : List Idp) (h : shId.O w B tId v L) (hl : L.length ≤ 1000000000000) :
    Calls Tryz.prog 85 #[v, .func (.func 48) #[] #[]] w fun e w' => e = .returned (.tuple #[]) ∧ ∃ L', L'.Perm L ∧ L'.Pairwise (fun x y => x.2 ≤ y.2) ∧ shId.O w' B tId v L' ∧ Keeps v.ownBlock.toList w w' := by
  obtain ⟨_, h2⟩ := id h
  rcases h2 with ⟨rfl, h0⟩ | ⟨g, cap, cur, rfl, hb, hg, _⟩
  · have hL : L = [] := by
      cases L with
      | nil => rfl
      | cons x t => simp [Sh.cs, shId] at h0
    subst hL
    refine (AnyF.slices_SortFunc_none Tryz.sortTid none 0 (.func (.func 48) #[] #[]) w).mono ?_
    rintro e w' ⟨rfl, rfl⟩
    exact ⟨rfl, [], List.Perm.refl _, List.Pairwise.nil, h, Keeps.refl _ _⟩
  · have hgl : g < w.heap.size := (Array.getElem?_eq_some_iff.1 hg).1
    have eg : ∀ args w, (callFunc 48 args).run Tryz.prog w = .ok (.enter 48 args) w := enters_of Tryz.func48 (by kernel_rfl) rfl
    have hcmp : CmpLays Tryz.prog 48 #[] shId.cf 2 cfI g 0 L.toArray.size w := fun m os dk hs x y => cmpI_c x y _
    have hcon := AnyQ.slices_SortFunc Tryz.sortTid 2 (fun w => by kernel_rfl) (fun w => by kernel_rfl) shId.cf shId.len shId.one cfI swoI 48 #[] g 0 cap L.toArray w eg hcmp h.holds hgl (by simp; omega)
    simp only [List.size_toArray] at hcon
    refine hcon.mono ?_
    rintro e w' ⟨rfl, d', m, os, hp, hs, rfl⟩
    have hp' : PermIn 0 L.toArray.size L.toArray d' := by simpa using hp
    obtain ⟨hd, hpl⟩ := Sh.perm_of_permIn hp'
    have hd2 : d'.size = L.length := by simpa using hd
    rw [← hd2] at hs
    have hpw := Sh.pairwise_of_sortedIn hs
    obtain ⟨h3, h4⟩ := Sh.O.sorted (m := m) (os := os) h hd2
    exact ⟨rfl, d'.toList, by simpa using hpl, hpw.imp (fun h => by rw [ltI_iff] at h; have := of_decide_eq_false h; omega), h3, h4⟩
def SfPost (w : World) (T : List (Idp × Nat)) (e : Ending) (w' : World) : Prop := ∃ v K, e = .returned v ∧ K.Perm (keyI T) ∧ K.Pairwise (fun x y => x.2 ≤ y.2) ∧ shId.O w' w.heap.size tId v K ∧ Keeps [] w w'
set_option maxRecDepth 100000 in
set_option maxHeartbeats 4000000 in
theorem sortedFunc_c (w : World) (lb : Array Value) (S : List Nat) (T : List (Idp × Nat)) (N : Nat) (hst : KeysSt w lb S (fun ss => ss.Perm (keyI T)) N) (hS : ∀ b ∈ S, b < w.heap.size) (hN : N ≤ 1000000) (hl : T.length ≤ 1000000) :
    Calls Tryz.prog 46 #[.func (.func 86) #[] lb, .func (.func 48) #[] #[]] w (SfPost w T) := by
  have hTl : (keyI T).length = T.length := by simp [keyI]
  replace hst := Lib.hid hst
  replace hTl := Lib.hid hTl
  go_enter Tryz.func46, Tryz.ntmps46
  go_wp2_with fail
  refine (collect_c w lb S _ N hst.out hS hN).mono ?_
  rintro e w1 ⟨v, xs, rfl, h1, h2, h3⟩
  obtain ⟨a, c, rfl⟩ := h2.form
  have hxl : xs.length = T.length := by rw [h1.length_eq, hTl.out]
  have hsort := sortI_c w1 (w.heap.size + 1) _ xs h2 (by omega)
  have hge := h2.ge
  replace h1 := Lib.hid h1
  replace h2 := Lib.hid h2
  replace h3 := Lib.hid h3
  replace hge := Lib.hid hge
  replace hsort := Lib.hid hsort
  obtain ⟨M, hM⟩ : ∃ M, xs.length = M := ⟨_, rfl⟩
  rw [hM] at hsort hge ⊢
  replace hM := Lib.hid hM
  replace hxl := Lib.hid hxl
  go_wp2_with fail
  refine hsort.out.mono ?_
  rintro e w2 ⟨rfl, L', hp, hpw, hO, hk⟩
  have hpp := Lib.hid (hp.trans h1.out)
  replace hpw := Lib.hid hpw
  replace hp := Lib.hid hp
  have hk2 := h3.out.fresh hk (fun b hb => .inr (by have := hge.out b (by simpa using hb); omega))
  replace hO := Lib.hid hO
  replace hk2 := Lib.hid hk2
  go_wp2
  go_ret
  refine ⟨_, L', rfl, hpp.out, hpw.out, ?_, hk2.out⟩
  have h9 := hO.out
  refine ⟨h9.1, ?_⟩
  rcases h9.2 with hn | ⟨g, cap, cur, e, hb, rest⟩
  · exact .inl hn
  · exact .inr ⟨g, cap, cur, e, by omega, rest⟩
theorem perm_srt2 {K L : List Idp} (hp : K.Perm L) (h1 : K.Pairwise (fun x y => x.2 ≤ y.2)) (h2 : L.Pairwise (fun x y => x.2 < y.2)) : K = L := by
  have hinj : ∀ x ∈ L, ∀ y ∈ L, x.2 = y.2 → x = y := fun x hx y hy e => by
    obtain ⟨i, hi, rfl⟩ := List.mem_iff_getElem.1 hx
    obtain ⟨j, hj, rfl⟩ := List.mem_iff_getElem.1 hy
    rcases Nat.lt_trichotomy i j with h | h | h
    · have := List.pairwise_iff_getElem.1 h2 i j hi hj h; omega
    · subst h; rfl
    · have := List.pairwise_iff_getElem.1 h2 j i hj hi h; omega
  refine hp.eq_of_pairwise (le := fun x y : Idp => x.2 ≤ y.2) (fun a b ha hb hab hba => hinj a (hp.mem_iff.1 ha) b hb (by omega)) h1 (h2.imp (fun h => by omega))
set_option maxRecDepth 100000 in
set_option maxHeartbeats 4000000 in
theorem active_c (w : World) (B bp bm : Nat) (vc : Value) (A : List AT) (T : Tc) (n k : Nat) (h : TcM w B bp bm vc A T) (ho : T.Ok n k) (hk : k ≤ 100000) :
    Calls Tryz.prog 15 #[ptrV bp] w fun e w' => ∃ v, e = .returned v ∧ shId.O w' w.heap.size tId v (T.act.map Tr.idp) ∧ Keeps [] w w' := by
  obtain ⟨c0, c1, c2, c3⟩ := h.cells
  have hlt := h.lt
  have hmp := h.mp
  have hTl : A.length ≤ 100000 := by have := h.len; have := ho.al; omega
  have hst := keys1_stops 7 w.heap.size bm [w.heap.size] (A.map (fun a => (a.t.idp, a.bt))) (w.alloc (.cells #[.map (some bm)] 78)) (by omega)
    (by rw [World.cell?_alloc_mark]; rfl) (hmp.keeps ktId ((Keeps.refl _ _).alloc _)) (by simp) (by simp)
  have hact : keyI (A.map (fun a => (a.t.idp, a.bt))) = T.act.map Tr.idp := by rw [← h.ac]; simp [keyI, List.map_map]
  have hsf := sortedFunc_c (w.alloc (.cells #[.map (some bm)] 78)) #[.pointer (some ⟨w.heap.size, 0, none⟩)] [w.heap.size] (A.map (fun a => (a.t.idp, a.bt))) _ hst (by simp) (by simp; omega) (by simp; omega)
  unfold SfPost at hsf
  rw [hact] at hsf
  have hsrt : (T.act.map Tr.idp).Pairwise (fun x y => x.2 < y.2) := List.pairwise_map.2 (ho.srt)
  replace hsf := Lib.hid hsf
  replace hsrt := Lib.hid hsrt
  replace hst := Lib.hid hst
  clear h ho hmp
  unfold ptrV
  go_enter Tryz.func15, Tryz.ntmps15
  go_wp2_with fail
  refine (mapsKeys_c bm w).mono ?_
  rintro e w1 ⟨rfl, rfl⟩
  go_wp2_with fail
  refine hsf.out.mono ?_
  rintro e w2 ⟨v, K, rfl, hp, hpw, hO, hk2⟩
  have hKe := perm_srt2 hp hpw hsrt.out
  subst hKe
  have hk3 := Lib.hid (((Keeps.refl [] w).alloc _).trans hk2)
  have hO2 := Lib.hid (hO.lowB (B' := w.heap.size) (by simp))
  clear hO hk2 hp hpw
  go_wp2
  go_ret
  exact ⟨v, rfl, hO2.out, hk3.out⟩
end Go.Proofs.YtpobepninifenaaGreat

namespace Go.Proofs.YtpobepninifenaaGreat
open Go Go.RowKit

theorem CL.lco {w : World} {B : Nat} {vc : Value} {P : List PCl} {V : Nat → Nat → SlT} (h : CL w B vc P V) : LCo w vc P := by
  refine ⟨_, h.c.r, fun b hb => by obtain ⟨cs, hc⟩ := h.c.tag b hb; exact ⟨cs, _, hc⟩, rowsC_len P V, fun k x p hx hp => ?_⟩
  obtain ⟨hk, rfl⟩ := List.getElem?_eq_some_iff.1 hp
  obtain ⟨hk2, rfl⟩ := List.getElem?_eq_some_iff.1 hx
  rw [rowsC_get P V k hk]
  exact ⟨rfl, rfl, Nd.of_O (h.o k 0 hk (by omega)), Nd.of_O (h.o k 1 hk (by omega)), Nd.of_O (h.o k 2 hk (by omega))⟩
def Cert2Post (w : World) (t : Tr) (e : Ending) (w' : World) : Prop :=
  Keeps [] w w' ∧ ((t.state ≠ 2 ∧ e = .returned (.tuple #[ctV ⟨0, 0, 0, 0, 0, (none, 0, 0), (none, 0, 0)⟩, .int .i64 9])) ∨ (t.state = 2 ∧ ∃ x, e = .returned (.tuple #[ctV x, .int .i64 0]) ∧ CtO w' x (certOf t) ∧ ∀ b, (slv x.va).ownBlock = some b → w.heap.size ≤ b))
set_option maxRecDepth 100000 in
set_option maxHeartbeats 4000000 in
theorem cert2_c (w : World) (B bt bm : Nat) (vo vh vg : Value) (t : Tr) (h : TrM w B bt bm vo vh vg t) (hl : t.qs.length ≤ 1000) :
    Calls Tryz.prog 53 #[.pointer (some ⟨bt, 0, none⟩)] w (Cert2Post w t) := by
  have hlt := h.lt.1
  have hbZ := heap_alloc_new w (.cells #[.int .i64 0, .int .i64 0, .int .i64 0, .int .u64 0, .int .i64 0, .slice none 0 0, .slice none 0 0] tCt)
  have hkA : Keeps [] w (w.alloc (.cells #[.int .i64 0, .int .i64 0, .int .i64 0, .int .u64 0, .int .i64 0, .slice none 0 0, .slice none 0 0] tCt)) := (Keeps.refl _ _).alloc _
  have hcs := h.cells
  by_cases hs : t.state = 2
  case neg =>
    have c9 := hcs.2.2.2.2.2.2.2.2.2.1
    have hsb : (t.state != 2) = true := by simpa using hs
    replace hkA := Lib.hid hkA
    replace hbZ := Lib.hid hbZ
    replace hs := Lib.hid hs
    clear h hcs
    go_enter Tryz.func53, Tryz.ntmps53
    go_wp2
    refine bodyPost_ret (results_ct rfl _ _ _ _ _ _ _ _ _ _ _ _ rfl hbZ.out) rfl ?_
    exact ⟨hkA.out, .inl ⟨hs.out, rfl⟩⟩
  case pos =>
    have hT := h.keeps hkA
    obtain ⟨d0, d1, d2, d3, d4, d5, d6, d7, d8, d9, d10, d11⟩ := hT.cells
    have c9 := hcs.2.2.2.2.2.2.2.2.2.1
    rw [hs] at c9
    clear d9
    obtain ⟨W, hW⟩ : ∃ W, (w.alloc (.cells #[.int .i64 0, .int .i64 0, .int .i64 0, .int .u64 0, .int .i64 0, .slice none 0 0, .slice none 0 0] tCt)) = W := ⟨_, rfl⟩
    rw [hW] at hbZ hkA hT d0 d1 d2 d3 d4
    have hdd : W.drew.heap[w.heap.size]? = _ := hbZ
    have hcT := hT.keeps (Keeps.refl [] W).drew
    have hkd := hkA.drew
    replace hkA := Lib.hid hkA
    replace hbZ := Lib.hid hbZ
    replace hs := Lib.hid hs
    replace hW := Lib.hid hW
    replace hT := Lib.hid hT
    replace hdd := Lib.hid hdd
    replace hcT := Lib.hid hcT
    replace hkd := Lib.hid hkd
    clear h hcs d5 d6 d7 d8 d10 d11
    obtain ⟨im, is, ⟨s0, s1, s2⟩, qs, told, hist, state, ag, rf⟩ := t
    simp only at d0 d1 d2 d3 d4 hl
    go_enter Tryz.func53, Tryz.ntmps53
    go_wp2
    rw [hW.out]
    have e0 := (Keeps.refl [] W).drew.val d0
    have e1 := (Keeps.refl [] W).drew.val d1
    have e2 := (Keeps.refl [] W).drew.val d2
    have e3 := (Keeps.refl [] W).drew.val d3
    have e4 := (Keeps.refl [] W).drew.val d4
    clear d0 d1 d2 d3 d4 c9
    refine Free.wp_region_chain (fun i => i == 9 || i == 11 || i == 13) (fun i => true) (fun _ b => b = w.heap.size) (by kernel_rfl) (by kernel_rfl) (by kernel_rfl) ?_
    generalize W.drew = wd at *
    (repeat (first | (apply Free.cw_pure rfl rfl; (intro w'; go_simp <;> exact rfl); go_frame) | (apply Free.cw_steady rfl rfl rfl; (intro w' hS; have q0 := Free.sx_cell hS e0 (fun _ _ hT => by omega); have q1 := Free.sx_cell hS e1 (fun _ _ hT => by omega); have q2 := Free.sx_cell hS e2 (fun _ _ hT => by omega); have q3 := Free.sx_cell hS e3 (fun _ _ hT => by omega); have q4 := Free.sx_cell hS e4 (fun _ _ hT => by omega); go_simp <;> exact rfl); go_frame) | (refine Free.cw_skip rfl ?_; go_frame)))
    refine Free.cw_loud rfl rfl (fun K hK => ?_)
    go_wp2_with fail
    refine (answers_c wd B bt bm vo vh vg _ hcT.out (by simp only; omega)).mono ?_
    rintro e w2 ⟨v2, X, Y, rfl, hXO, hXL, hY, hk2⟩
    refine hK _ _ rfl (Free.KeepsP.of hk2 (by simp)) ?_
    clear hK K
    have hYe := hY.uniq (srtOf_sorted hcT.out.inv)
    subst hYe
    obtain ⟨va, ca, rfl⟩ := hXO.form
    obtain ⟨YN, hYN⟩ : ∃ n, X.length = n := ⟨_, rfl⟩
    rw [hYN]
    have hT2 := hcT.out.keeps hk2
    have hb2 := (hk2.block _ (lt_of_blk hdd.out) (by simp)).trans hdd.out
    have hkw2 := hkd.out.trans hk2
    rw [hYN] at hXO
    replace hXO := Lib.hid hXO
    replace hXL := Lib.hid hXL
    replace hYN := Lib.hid hYN
    replace hT2 := Lib.hid hT2
    replace hb2 := Lib.hid hb2
    replace hkw2 := Lib.hid hkw2
    clear hk2 hY
    (repeat (first | (apply Free.cw_pure rfl rfl; (intro w'; go_simp <;> exact rfl); go_frame) | (apply Free.cw_steady rfl rfl rfl; (intro w' hS; have q0 := Free.sx_cell hS e0 (fun _ _ hT => by omega); have q1 := Free.sx_cell hS e1 (fun _ _ hT => by omega); have q2 := Free.sx_cell hS e2 (fun _ _ hT => by omega); have q3 := Free.sx_cell hS e3 (fun _ _ hT => by omega); have q4 := Free.sx_cell hS e4 (fun _ _ hT => by omega); go_simp <;> exact rfl); go_frame) | (refine Free.cw_skip rfl ?_; go_frame)))
    refine Free.cw_loud rfl rfl (fun K hK => ?_)
    go_wp2_with fail
    refine (claims_c w2 B bt bm vo vh vg _ hT2.out (by simp only; omega)).mono ?_
    rintro e w3 ⟨v3, P, V, Bc, Y, rfl, hBc, hCL, hY, hP, hk3⟩
    refine hK _ _ rfl (Free.KeepsP.of hk3 (by simp)) ?_
    clear hK K
    have hPe := Tr.clm_eq hT2.out.inv hY hP
    have hLC := hCL.lc
    rw [hPe] at hLC
    obtain ⟨vc, cc, hvc, _, _⟩ := hLC.form
    subst hvc
    obtain ⟨PN, hPN⟩ : ∃ n, (Tr.clm ⟨im, is, (s0, s1, s2), qs, told, hist, state, ag, rf⟩).length = n := ⟨_, rfl⟩
    rw [hPN] at hLC ⊢
    have hCL2 := hCL
    rw [hPN] at hCL2
    replace hCL2 := Lib.hid hCL2
    replace hBc := Lib.hid hBc
    replace hPe := Lib.hid hPe
    have hX3 := hXO.out.keeps hk3
    have hL3 := hXL.out.ki hk3.ki0
    have hb3 := (hk3.block _ (lt_of_blk hb2.out) (by simp)).trans hb2.out
    have hkw3 := hkw2.out.trans hk3
    obtain ⟨z0, z1, z2, z3, z4, z5, z6, zf, zl⟩ := cl7 hb3
    replace hX3 := Lib.hid hX3
    replace hL3 := Lib.hid hL3
    replace hb3 := Lib.hid hb3
    replace hkw3 := Lib.hid hkw3
    replace hLC := Lib.hid hLC
    replace hPN := Lib.hid hPN
    clear hk3 hCL hP hY hXO hXL
    (repeat (first | (apply Free.cw_pure rfl rfl; (intro w'; go_simp <;> exact rfl); go_frame) | (apply Free.cw_steady rfl rfl rfl; (intro w' hS; have q0 := Free.sx_cell hS e0 (fun _ _ hT => by omega); have q1 := Free.sx_cell hS e1 (fun _ _ hT => by omega); have q2 := Free.sx_cell hS e2 (fun _ _ hT => by omega); have q3 := Free.sx_cell hS e3 (fun _ _ hT => by omega); have q4 := Free.sx_cell hS e4 (fun _ _ hT => by omega); go_simp <;> exact rfl); go_frame) | (refine Free.cw_skip rfl ?_; go_frame)))
    refine Free.cw_loud rfl rfl (fun K hK => ?_)
    go_wp2
    refine hK _ _ rfl (Free.KeepsP.of (sc7 (.int .i64 im) (.int .i64 is) (.int .i64 s0) (.int .u64 s1) (.int .i64 s2) (.slice va YN ca) (.slice vc PN cc) hb3.out).2 (fun b hb => by simpa using hb)) ?_
    clear hK K
    (repeat (apply Free.cw_pure rfl rfl; (intro w'; go_simp <;> exact rfl); go_frame))
    refine Free.cw_nil ?_
    go_wp2
    obtain ⟨g1, g2⟩ := sc7 (.int .i64 im) (.int .i64 is) (.int .i64 s0) (.int .u64 s1) (.int .i64 s2) (.slice va YN ca) (.slice vc PN cc) hb3.out
    have hkf := hkw3.out.fresh g2 (fun b hb => by simp only [List.mem_singleton] at hb; subst hb; exact .inr (Nat.le_refl _))
    refine bodyPost_ret (results_ct rfl _ _ _ _ _ _ _ _ _ _ _ _ rfl g1) rfl ?_
    refine ⟨hkf, .inr ⟨hs.out, ⟨im, is, s0, s1, s2, (va, YN, ca), (vc, PN, cc)⟩, rfl, ⟨rfl, rfl, rfl, rfl, rfl, ?_, ?_⟩, fun b hb => Nat.le_trans hkd.out.size (hX3.out.ge b hb)⟩⟩
    · have hXF := hX3.out.keepS g2 (fun b hb e => by
        simp only [List.mem_singleton] at hb
        subst hb
        obtain ⟨cs, hc⟩ := hX3.out.tag _ e
        exact tag_ne hb3.out hc (by decide) rfl)
      refine ⟨X, hXF.r, hL3.out.ki (g2.ki (fun b hb cs f e => ?_)), fun b hb => by obtain ⟨cs, hc⟩ := hXF.tag b hb; exact ⟨cs, _, hc⟩⟩
      · simp only [List.mem_singleton] at hb
        subst hb
        rw [hb3.out] at e
        cases e
    · have hZB : w.heap.size < Bc := Nat.lt_of_lt_of_le (lt_of_blk hb2.out) hBc.out
      have hC4 : CL _ Bc (.slice vc PN cc) P V := ⟨hCL2.out.c.keepS g2 (fun b hb e => by
        simp only [List.mem_singleton] at hb
        subst hb
        have := hCL2.out.c.ge _ e
        omega), fun k j h1 h2 => (hCL2.out.o k j h1 h2).keepS g2 (fun b hb e => by
        simp only [List.mem_singleton] at hb
        subst hb
        have := (hCL2.out.o k j h1 h2).ge _ e
        omega), hCL2.out.d⟩
      have hf := hC4.lco
      rw [hPe.out] at hf
      exact hf
end Go.Proofs.YtpobepninifenaaGreat

namespace Go.Proofs.YtpobepninifenaaGreat
open Go Go.RowKit

theorem infoCt : (Tryz.prog.info? tCt).map (fun i => (i.zero, i.size, i.bytes)) = some (some (ctV ⟨0, 0, 0, 0, 0, (none, 0, 0), (none, 0, 0)⟩), 7, 88) := by kernel_rfl
theorem del_erase {κ α : Type} [DecidableEq κ] : ∀ (L : List (κ × α)) (i : Nat) (hi : i < L.length), (∀ (j : Nat) (hj : j < L.length), j ≠ i → L[j].1 ≠ L[i].1) → MapS.del L[i].1 L = L.eraseIdx i
  | p :: L, 0, _, h => by
    have hself : MapS.del p.1 L = L := List.filter_eq_self.2 (fun q hq => by
      obtain ⟨j, hj, rfl⟩ := List.mem_iff_getElem.1 hq
      have := h (j + 1) (by simpa using hj) (by omega)
      simp at this
      simp [this])
    show MapS.del p.1 (p :: L) = L
    unfold MapS.del at hself ⊢
    rw [List.filter_cons_of_neg (by simp)]
    exact hself
  | p :: L, i + 1, hi, h => by
    have hi' : i < L.length := by simpa using hi
    have ih := del_erase L i hi' (fun j hj hne => by
      have := h (j + 1) (by simpa using hj) (by omega)
      simpa using this)
    have hp : p.1 ≠ L[i].1 := by
      have := h 0 (by simp) (by omega)
      simpa using this
    show MapS.del L[i].1 (p :: L) = p :: L.eraseIdx i
    unfold MapS.del at ih ⊢
    rw [List.filter_cons_of_pos (by simp [hp]), ih]
theorem map_erase {α β : Type} (f : α → β) : ∀ (L : List α) (i : Nat), (L.eraseIdx i).map f = (L.map f).eraseIdx i
  | [], _ => rfl
  | _ :: _, 0 => rfl
  | x :: L, i + 1 => by
    show f x :: (L.eraseIdx i).map f = f x :: (L.map f).eraseIdx i
    rw [map_erase f L i]
namespace TcM
variable {w w' : World} {B bp bm : Nat} {vc : Value} {A : List AT} {T : Tc}
/-- A certificate more. -/
theorem addC {w1 w2 : World} {vc' : Value} {X : List CtV} {x : CtV} {c : Ct} (h : TcM w B bp bm vc A T) (hX : X.length = T.cs.length ∧ ∀ (k : Nat) (x : CtV) (c : Ct), X[k]? = some x → T.cs[k]? = some c → CtO w x c ∧ ∀ b, (slv x.va).ownBlock = some b → b < w.heap.size ∧ b ∉ ownTc bp bm vc A)
    (hG : Grw w w1 vc vc') (hO : shCt.O w1 B tCt vc' (X ++ [x])) (hx : CtO w x c) (hxb : ∀ b, (slv x.va).ownBlock = some b → b < w.heap.size ∧ b ∉ ownTc bp bm vc A)
    (hk2 : Keeps [bp] w1 w2) (hb : w2.heap[bp]? = some (.cells #[.int .i64 T.m, .int .i64 T.s, .map (some bm), vc'] tTc (0, 0))) :
    TcM w2 B bp bm vc' A { T with cs := T.cs ++ [c] } ∧ Mv (ownTc bp bm vc A) (ownTc bp bm vc' A) w w2 := by
  have hGk := hG.keepsO
  obtain ⟨X0, hX0, _⟩ := h.cs
  have hvb : ∀ b ∈ vc.ownBlock.toList, vc.ownBlock = some b := fun b hb => by simpa using hb
  have hK1 : Keeps (ownTc bp bm vc A) w w1 := hGk.mono (fun b hb => mem_ownTc.2 (.inr (.inr (.inl (hvb b hb)))))
  have hI1 : KI w w1 := hGk.ki (fun b hb cs f e => by obtain ⟨cs', hc⟩ := hX0.tag b (hvb b hb); exact tag_ne hc e (by decide) rfl)
  have hbp1 : w1.heap[bp]? = _ := (hGk.block bp h.lt.1 (fun hm => h.vne.1 (hvb _ hm))).trans h.blk
  have hI2 : KI w1 w2 := hk2.ki (fun b hb cs f e => by simp at hb; subst hb; rw [hbp1] at e; cases e)
  have hK : Keeps (ownTc bp bm vc A) w w2 := hK1.trans (hk2.mono (fun b hb => by simp at hb; subst hb; exact mem_ownTc.2 (.inl rfl)))
  have hI : KI w w2 := hI1.trans hI2
  have hlt : ∀ b ∈ ownTc bp bm vc A, b < w.heap.size := fun b hb => (h.tag hb).1
  have hv' : ∀ b, vc'.ownBlock = some b → vc.ownBlock = some b ∨ w.heap.size ≤ b := fun b hb => by
    rcases hG.own with e | ⟨k, e, hle⟩
    · exact .inl (e ▸ hb)
    · rw [e] at hb; cases hb; exact .inr hle
  have hown : ∀ b ∈ ownTc bp bm vc' A, b ∈ ownTc bp bm vc A ∨ w.heap.size ≤ b := fun b hb => by
    rcases mem_ownTc.1 hb with e | e | e | e
    · exact .inl (mem_ownTc.2 (.inl e))
    · exact .inl (mem_ownTc.2 (.inr (.inl e)))
    · exact (hv' b e).imp (fun e => mem_ownTc.2 (.inr (.inr (.inl e)))) id
    · exact .inl (mem_ownTc.2 (.inr (.inr (.inr e))))
  have hbmn : bm ∉ vc.ownBlock.toList := fun hm => h.vne.2 (hvb _ hm)
  refine ⟨⟨h.ac, hb, (h.mp.kept ktId hGk hbmn).kept ktId hk2 (by simpa using h.ne.symm), fun a ha => ?_, h.dj, fun a ha c hc => ?_, ⟨X ++ [x], hO.keepS hk2 (fun b hb e => ?_), by simp [hX.1], fun k y d h1 h2 => ?_⟩, h.bB⟩, hK, hI, hown⟩
  · exact ((h.tr a ha).keep hGk (fun b hb hm => (h.ob a ha b hb).2.2 (hvb _ hm)) hI1).keep hk2 (fun b hb hm => (h.ob a ha b hb).1 (by simpa using hm)) hI2
  · obtain ⟨g1, g2, g3⟩ := h.ob a ha c hc
    refine ⟨g1, g2, fun e => ?_⟩
    rcases hv' c e with e2 | e2
    · exact g3 e2
    · have := hlt c (mem_ownTc.2 (.inr (.inr (.inr ⟨a, ha, hc⟩)))); omega
  · simp at hb; subst hb
    obtain ⟨cs, hc⟩ := hO.tag _ e
    exact tag_ne hc hbp1 (by decide) rfl
  · have key : CtO w y d ∧ ∀ b, (slv y.va).ownBlock = some b → b < w.heap.size ∧ b ∉ ownTc bp bm vc A := by
      rcases Nat.lt_trichotomy k X.length with hk | hk | hk
      · rw [List.getElem?_append_left hk] at h1
        have h2' : (T.cs ++ [c])[k]? = some d := h2
        rw [List.getElem?_append_left (by rw [← hX.1]; exact hk)] at h2'
        exact hX.2 k y d h1 h2'
      · have h2' : (T.cs ++ [c])[k]? = some d := h2
        rw [List.getElem?_append_right (by omega), show k - X.length = 0 by omega] at h1
        rw [List.getElem?_append_right (by rw [← hX.1]; omega), show k - T.cs.length = 0 by rw [← hX.1]; omega] at h2'
        simp at h1 h2'
        subst h1 h2'
        exact ⟨hx, hxb⟩
      · rw [List.getElem?_eq_none (by simp; omega)] at h1; cases h1
    exact ⟨key.1.keepS hK hI (fun b hb => h.tag hb) (fun b hb => (key.2 b hb).2), fun b hb => ⟨Nat.lt_of_lt_of_le (key.2 b hb).1 hK.size, fun hm => by
      rcases hown b hm with g | g
      · exact (key.2 b hb).2 g
      · have := (key.2 b hb).1; omega⟩⟩
/-- A trace less. -/
theorem del (h : TcM w B bp bm vc A T) {i : Nat} (hi : i < A.length) (hk : Keeps [bm] w w') (hM : MapS.M ktId ptrV w' bm (MapS.del A[i].t.idp (A.map (fun a => (a.t.idp, a.bt))))) :
    TcM w' B bp bm vc (A.eraseIdx i) { T with act := T.act.eraseIdx i } ∧ Mv (ownTc bp bm vc A) (ownTc bp bm vc (A.eraseIdx i)) w w' := by
  have hI : KI w w' := hk.ki (fun b hb cs f e => by
    simp at hb; subst hb
    obtain ⟨es, c, hm⟩ := h.mp.isMap
    rw [hm] at e; cases e)
  have hsub : List.Sublist (A.eraseIdx i) A := List.eraseIdx_sublist ..
  have hsm : ∀ a ∈ A.eraseIdx i, a ∈ A := fun a ha => hsub.subset ha
  have hK : Keeps (ownTc bp bm vc A) w w' := hk.mono (fun b hb => by simp at hb; subst hb; exact mem_ownTc.2 (.inr (.inl rfl)))
  have hown : ∀ b ∈ ownTc bp bm vc (A.eraseIdx i), b ∈ ownTc bp bm vc A := fun b hb => by
    rcases mem_ownTc.1 hb with e | e | e | ⟨a, ha, e⟩
    · exact mem_ownTc.2 (.inl e)
    · exact mem_ownTc.2 (.inr (.inl e))
    · exact mem_ownTc.2 (.inr (.inr (.inl e)))
    · exact mem_ownTc.2 (.inr (.inr (.inr ⟨a, hsm a ha, e⟩)))
  have hnd : MapS.ND (A.map (fun a => (a.t.idp, a.bt))) := by obtain ⟨_, h2, _⟩ := h.mp; exact h2
  have hmap : MapS.del A[i].t.idp (A.map (fun a => (a.t.idp, a.bt))) = (A.eraseIdx i).map (fun a => (a.t.idp, a.bt)) := by
    have := del_erase (A.map (fun a => (a.t.idp, a.bt))) i (by simpa using hi) (fun j hj hne e => by
      have h1 : ((A.map (fun a => (a.t.idp, a.bt))).map (·.1)).Nodup := hnd
      have hj' : j < ((A.map (fun a => (a.t.idp, a.bt))).map (·.1)).length := by simpa using hj
      have hi'' : i < ((A.map (fun a => (a.t.idp, a.bt))).map (·.1)).length := by simpa using hi
      exact hne ((List.getElem_inj (h₀ := hj') (h₁ := hi'') h1).1 (by simpa using e)))
    rw [List.getElem_map] at this
    rw [this]
    exact (map_erase _ _ _).symm
  rw [hmap] at hM
  obtain ⟨X, hX, hl, hc⟩ := h.cs
  refine ⟨⟨by rw [map_erase, h.ac], (hk.block _ h.lt.1 (by simpa using h.ne)).trans h.blk, hM, fun a ha => (h.tr a (hsm a ha)).keep hk (fun b hb hm => (h.ob a (hsm a ha) b hb).2.1 (by simpa using hm)) hI, h.dj.sublist hsub, fun a ha => h.ob a (hsm a ha),
    ⟨X, hX.keepS hk (fun b hb e => by simp at hb; subst hb; exact h.vne.2 e), hl, fun k x c h1 h2 => ?_⟩, h.bB⟩, hK, hI, fun b hb => .inl (hown b hb)⟩
  obtain ⟨g1, g2⟩ := hc k x c h1 h2
  exact ⟨g1.keepS hK hI (fun b hb => h.tag hb) (fun b hb => (g2 b hb).2), fun b hb => ⟨Nat.lt_of_lt_of_le (g2 b hb).1 hk.size, fun hm => (g2 b hb).2 (hown b hm)⟩⟩
end TcM
end Go.Proofs.YtpobepninifenaaGreat

namespace Go.Proofs.YtpobepninifenaaGreat
open Go Go.RowKit

def FinPost (w : World) (B bp bm : Nat) (vc : Value) (A : List AT) (T : Tc) (id : Idp) (e : Ending) (w' : World) : Prop :=
  ∃ vc' A', e = .returned (.int .i64 (if T.find id = none then 6 else 0)) ∧ TcM w' B bp bm vc' A' (T.finish id) ∧ Mv (ownTc bp bm vc A) (ownTc bp bm vc' A') w w'
set_option maxRecDepth 100000 in
set_option maxHeartbeats 8000000 in
theorem tfinish_c (w : World) (B bp bm : Nat) (vc : Value) (A : List AT) (T : Tc) (n k : Nat) (h : TcM w B bp bm vc A T) (ho : T.Ok n k) (hn : n ≤ 100) (hk : k ≤ 10000) (id : Idp) (hid : ipOk id) :
    Calls Tryz.prog 22 #[ptrV bp, ipV id] w (FinPost w B bp bm vc A T id) := by
  obtain ⟨i0, i1⟩ := id
  have hg := h.get ho (i0, i1)
  have hkA := (Keeps.refl [] w).alloc (.cells #[.int .i64 i0, .int .i64 i1] tId)
  have hbA := heap_alloc_new w (.cells #[.int .i64 i0, .int .i64 i1] tId)
  have hT := h.keeps hkA
  have hAl : A.length ≤ 10000 := by have := h.len; have := ho.al; omega
  have hlen := h.len
  obtain ⟨c0, c1, c2, c3⟩ := hT.cells
  have hM := hT.mp
  have hq : ∀ a ∈ A, a.t.qs.length ≤ 1000 := fun a ha => by have := (ho.bnd a.t (by rw [← h.ac]; exact List.mem_map.2 ⟨a, ha, rfl⟩)).qs; omega
  have hat : ∀ (i : Nat) (hi : i < A.length), T.act[i]'(by omega) = A[i].t := fun i hi => by simp [← h.ac]
  replace hbA := Lib.hid hbA
  replace hkA := Lib.hid hkA
  replace hM := Lib.hid hM
  replace hg := Lib.hid hg
  replace hT := Lib.hid hT
  replace hq := Lib.hid hq
  replace hat := Lib.hid hat
  replace hlen := Lib.hid hlen
  have hcl := ho.cl
  have hltw := h.lt
  replace ho := Lib.hid ho
  clear h
  unfold ptrV ipV
  go_enter Tryz.func22, Tryz.ntmps22
  go_upto_region 1 with fail
  generalize (w.alloc (.cells #[.int .i64 i0, .int .i64 i1] tId)) = W at *
  obtain ⟨X, hX⟩ : ∃ X, w.heap.size = X := ⟨_, rfl⟩
  rw [hX] at hbA hltw ⊢
  replace hX := Lib.hid hX
  obtain ⟨p0, p1, pf, pl⟩ := cl2 hbA.out
  have hlk := MapS.M.look_ok ktId (k := (i0, i1)) Tryz.underlying78 (.pointer none) zeroTp (hM.out.keeps ktId (Keeps.refl [] W).drew) hid
  simp only [ktId] at hlk
  have hkd := Lib.hid (hkA.out.trans (Keeps.refl [] W).drew)
  rcases hg.out with ⟨i, hi, h1, h2, h3⟩ | ⟨h1, h3⟩
  · rw [h3] at hlk
    simp only [Option.map_some, Option.getD_some, Option.isSome_some, ptrV] at hlk
    have hTd := hT.out.keeps (Keeps.refl [] W).drew
    have hTi := hTd.tr _ (List.getElem_mem hi)
    have hcs := fun (W' : World) (hk : Keeps [] W.drew W') => state_c W' B _ _ _ _ _ _ (hTi.keeps hk)
    have hcc := fun (W' : World) (hk : Keeps [] W.drew W') => cert2_c W' B _ _ _ _ _ _ (hTi.keeps hk) (hq.out _ (List.getElem_mem hi))
    have hfin := Tc.finish_at h1 (by rw [← hlen.out]; exact hi)
    rw [hat.out i hi] at hfin
    obtain ⟨a, ha⟩ : ∃ a, A[i] = a := ⟨_, rfl⟩
    rw [ha] at hlk hcs hcc hfin h2 hTi
    obtain ⟨u, bt, bn, vo, vh, vg⟩ := a
    simp only at hlk hcs hcc hfin h2 hTi
    have hidp : A[i].t.idp = (i0, i1) := by rw [ha]; exact h2
    replace h1 := Lib.hid h1
    replace h2 := Lib.hid h2
    replace ha := Lib.hid ha
    replace hTd := Lib.hid hTd
    replace hTi := Lib.hid hTi
    replace hcs := Lib.hid hcs
    replace hcc := Lib.hid hcc
    replace hfin := Lib.hid hfin
    replace hidp := Lib.hid hidp
    clear h3
    refine Free.wp_region_chain (fun i => i == 5) (fun i => true) (fun _ _ => False) (by kernel_rfl) (by kernel_rfl) (by kernel_rfl) ?_
    (repeat (first | (apply Free.cw_pure rfl rfl; (intro w'; go_simp <;> exact rfl); go_frame) | (apply Free.cw_steady rfl rfl rfl; (intro w' hS; have q0 := Free.sx_cell hS c2 (fun _ _ hT => hT); have q1 := Free.sx_cell hS p0 (fun _ _ hT => hT); have q2 := Free.sx_cell hS p1 (fun _ _ hT => hT); go_simp <;> exact rfl); go_frame) | (refine Free.cw_skip rfl ?_; go_frame)))
    refine Free.cw_loud rfl rfl (fun K hK => ?_)
    go_wp2
    refine hK _ _ rfl (Free.KeepsP.refl _ _) ?_
    clear hK K hlk
    (repeat (first | (apply Free.cw_pure rfl rfl; (intro w'; go_simp <;> exact rfl); go_frame) | (apply Free.cw_steady rfl rfl rfl; (intro w' hS; have q0 := Free.sx_cell hS c2 (fun _ _ hT => hT); have q1 := Free.sx_cell hS p0 (fun _ _ hT => hT); have q2 := Free.sx_cell hS p1 (fun _ _ hT => hT); go_simp <;> exact rfl); go_frame) | (refine Free.cw_skip rfl ?_; go_frame)))
    refine Free.cw_nil ?_
    clear c0 c1 c2 c3 p0 p1 pf pl
    have hbA' := Lib.hid (((Keeps.refl [] W).drew.block _ (lt_of_blk hbA.out) (by simp)).trans hbA.out)
    generalize W.drew = WD at *
    go_wp2_with fail
    refine (hcs.out WD (Keeps.refl _ _)).mono ?_
    rintro e w2 ⟨rfl, rfl⟩
    by_cases hs : u.state = 2
    · have hs2 : (u.state == 2) = true := by simp [hs]
      have hs3 : decide (u.state = 2) = true := by simp [hs]
      rw [if_pos hs] at hfin
      go_wp2_with fail
      refine (hcc.out WD (Keeps.refl _ _)).mono ?_
      rintro e w3 ⟨hk3, hcase⟩
      rcases hcase with ⟨hne, _⟩ | ⟨_, x, rfl, hx, hxb⟩
      · exact absurd hs hne
      obtain ⟨x0, x1, x2, x3, x4, ⟨x5, x6, x7⟩, ⟨x8, x9, x10⟩⟩ := x
      simp only [ctV, slv]
      have hkX := hk3.alloc (.cells #[.int .i64 x0, .int .i64 x1, .int .i64 x2, .int .u64 x3, .int .i64 x4, .slice x5 x6 x7, .slice x8 x9 x10] tCt)
      have hbC := heap_alloc_new w3 (.cells #[.int .i64 x0, .int .i64 x1, .int .i64 x2, .int .u64 x3, .int .i64 x4, .slice x5 x6 x7, .slice x8 x9 x10] tCt)
      have hx4 := hx.keeps ((Keeps.refl [] w3).alloc (.cells #[.int .i64 x0, .int .i64 x1, .int .i64 x2, .int .u64 x3, .int .i64 x4, .slice x5 x6 x7, .slice x8 x9 x10] tCt))
      have hT4 := hTd.out.keeps hkX
      have hsz3 := hk3.size
      have hltd := hTd.out.lt
      have hbX4 := (hkX.block _ (lt_of_blk hbA'.out) (by simp)).trans hbA'.out
      have hownd : ∀ b ∈ ownTc bp bm vc A, b < WD.heap.size := fun b hb => (hTd.out.tag hb).1
      replace hkX := Lib.hid hkX
      replace hbC := Lib.hid hbC
      replace hx4 := Lib.hid hx4
      replace hT4 := Lib.hid hT4
      replace hbX4 := Lib.hid hbX4
      replace hxb := Lib.hid hxb
      replace hownd := Lib.hid hownd
      replace hs := Lib.hid hs
      clear hx hk3
      go_upto_region 6 with fail
      generalize (w3.alloc (.cells #[.int .i64 x0, .int .i64 x1, .int .i64 x2, .int .u64 x3, .int .i64 x4, .slice x5 x6 x7, .slice x8 x9 x10] tCt)) = W4 at *
      obtain ⟨XC, hXC⟩ : ∃ X, w3.heap.size = X := ⟨_, rfl⟩
      rw [hXC] at hbC ⊢
      have hXC2 : WD.heap.size ≤ XC := by omega
      replace hXC := Lib.hid hXC
      obtain ⟨z0, z1, z2, z3, z4, z5, z6, zf, zl⟩ := cl7 hbC.out
      obtain ⟨c0, c1, c2, c3⟩ := hT4.out.cells
      obtain ⟨X9, hX9, hXl, hXc⟩ := hT4.out.cs
      obtain ⟨va, vcap, rfl⟩ := hX9.form
      have hvn1 : (Value.slice va X9.length vcap).ownBlock ≠ some bp := hT4.out.vne.1
      have hvn2 : (Value.slice va X9.length vcap).ownBlock ≠ some XC := fun e => by have := hownd.out XC (mem_ownTc.2 (.inr (.inr (.inl e)))); omega
      have hbpX : XC ≠ bp := by omega
      have hXll : X9.length ≤ 100 := by omega
      obtain ⟨NC, hNC⟩ : ∃ m, X9.length = m := ⟨_, rfl⟩
      rw [hNC] at hX9 hvn1 hvn2 hXll hT hTd hownd hT4 hXc c3 ⊢
      replace hNC := Lib.hid hNC
      replace hX9 := Lib.hid hX9
      replace hXc := Lib.hid (And.intro hXl hXc)
      replace hvn1 := Lib.hid hvn1
      replace hvn2 := Lib.hid hvn2
      clear hXl
      refine Free.wp_region_chain (fun i => i == 6 || i == 7 || i == 10) (fun i => true) (fun j b => (j = 7 ∧ (Value.slice va NC vcap).ownBlock = some b) ∨ (j = 10 ∧ b = bp)) (by kernel_rfl) (by kernel_rfl) (by kernel_rfl) ?_
      (repeat (first | (apply Free.cw_pure rfl rfl; (intro w'; go_simp <;> exact rfl); go_frame) | (apply Free.cw_steady rfl rfl rfl; (intro w' hS; have q0 := Free.sx_cell hS c3 (fun j hp hT => Or.elim hT (fun h => hvn1.out h.2) (fun h => by obtain ⟨rfl, _⟩ := h; exact absurd hp (by decide +kernel))); have q1 := Free.sx_cell hS z0 (fun j hp hT => Or.elim hT (fun h => hvn2.out h.2) (fun h => hbpX h.2)); have q2 := Free.sx_cell hS z1 (fun j hp hT => Or.elim hT (fun h => hvn2.out h.2) (fun h => hbpX h.2)); have q3 := Free.sx_cell hS z2 (fun j hp hT => Or.elim hT (fun h => hvn2.out h.2) (fun h => hbpX h.2)); have q4 := Free.sx_cell hS z3 (fun j hp hT => Or.elim hT (fun h => hvn2.out h.2) (fun h => hbpX h.2)); have q5 := Free.sx_cell hS z4 (fun j hp hT => Or.elim hT (fun h => hvn2.out h.2) (fun h => hbpX h.2)); have q6 := Free.sx_cell hS z5 (fun j hp hT => Or.elim hT (fun h => hvn2.out h.2) (fun h => hbpX h.2)); have q7 := Free.sx_cell hS z6 (fun j hp hT => Or.elim hT (fun h => hvn2.out h.2) (fun h => hbpX h.2)); go_simp <;> exact rfl); go_frame) | (refine Free.cw_skip rfl ?_; go_frame)))
      refine Free.cw_loud rfl rfl (fun K hK => ?_)
      go_wp2
      refine hK _ _ rfl (Free.KeepsP.alloc _ _ _) ?_
      clear hK K
      (repeat (apply Free.cw_pure rfl rfl; (intro w'; go_simp <;> exact rfl); go_frame))
      refine Free.cw_loud rfl rfl (fun K hK => ?_)
      have hkE : Keeps [] W4 ((W4.alloc (.cells #[.int .i64 x0, .int .i64 x1, .int .i64 x2, .int .u64 x3, .int .i64 x4, .slice x5 x6 x7, .slice x8 x9 x10] tCt)).drew) := ((Keeps.refl _ _).alloc _).drew
      have hmade := (Sh.O.one shCt W4 ⟨x0, x1, x2, x3, x4, (x5, x6, x7), (x8, x9, x10)⟩ #[.int .i64 x0, .int .i64 x1, .int .i64 x2, .int .u64 x3, .int .i64 x4, .slice x5 x6 x7, .slice x8 x9 x10] tCt 0 rfl (by omega)).keeps ((Keeps.refl [] _).drew)
      have hOE := hX9.out.keeps hkE
      have hTE := hT4.out.keeps hkE
      have hxE := hx4.out.keeps hkE
      have hltE := hTE.lt
      have hXcE : X9.length = T.cs.length ∧ ∀ (k : Nat) (x : CtV) (c : Ct), X9[k]? = some x → T.cs[k]? = some c → CtO ((W4.alloc (.cells #[.int .i64 x0, .int .i64 x1, .int .i64 x2, .int .u64 x3, .int .i64 x4, .slice x5 x6 x7, .slice x8 x9 x10] tCt)).drew) x c ∧ ∀ b, (slv x.va).ownBlock = some b → b < ((W4.alloc (.cells #[.int .i64 x0, .int .i64 x1, .int .i64 x2, .int .u64 x3, .int .i64 x4, .slice x5 x6 x7, .slice x8 x9 x10] tCt)).drew).heap.size ∧ b ∉ ownTc bp bm (Value.slice va NC vcap) A := ⟨hXc.out.1, fun k x c g1 g2 => ⟨((hXc.out.2 k x c g1 g2).1).keeps hkE, fun b hb => ⟨Nat.lt_of_lt_of_le ((hXc.out.2 k x c g1 g2).2 b hb).1 hkE.size, ((hXc.out.2 k x c g1 g2).2 b hb).2⟩⟩⟩
      have hxbE : ∀ b, (slv (x5, x6, x7)).ownBlock = some b → b < ((W4.alloc (.cells #[.int .i64 x0, .int .i64 x1, .int .i64 x2, .int .u64 x3, .int .i64 x4, .slice x5 x6 x7, .slice x8 x9 x10] tCt)).drew).heap.size ∧ b ∉ ownTc bp bm (Value.slice va NC vcap) A := fun b hb => by
        obtain ⟨Z, _, _, hz⟩ := hxE.an
        obtain ⟨cs, f, hz⟩ := hz b hb
        refine ⟨lt_of_blk' hz, fun hm => ?_⟩
        have h1 := hxb.out b hb
        have h2 := hownd.out b hm
        omega
      refine Sh.wp_app shCt B infoCt rfl Tryz.underlying28 (.slice va NC vcap) (.slice (some ⟨W4.heap.size, 0, none⟩) 1 1) X9 [(⟨x0, x1, x2, x3, x4, (x5, x6, x7), (x8, x9, x10)⟩ : CtV)] _ _ rfl rfl rfl hOE hmade.r (by rw [hNC.out]; simp only [List.length_cons, List.length_nil]; omega) (Nat.le_trans hTE.bB.1 (Nat.le_of_lt hltE.1)) ?_
      intro v6 w6 hO6 hG6
      obtain ⟨n6, r6, rfl⟩ := hO6.form
      obtain ⟨N6, hN6⟩ : ∃ q, (X9 ++ [(⟨x0, x1, x2, x3, x4, (x5, x6, x7), (x8, x9, x10)⟩ : CtV)]).length = q := ⟨_, rfl⟩
      rw [hN6] at hO6 hG6 ⊢
      refine hK _ _ rfl (Free.KeepsP.of hG6.keepsO (fun b hb => .inl ⟨rfl, by simpa using hb⟩)) ?_
      clear hK K
      have hb6 := (hG6.keepsO.block bp hltE.1 (fun hm => hvn1.out (by simpa using hm))).trans hTE.blk
      have hset := setCs hb6 3 (.slice n6 N6 r6)
      have hks : Keeps [bp] w6 (w6.setCell ⟨bp, 3, none⟩ (.slice n6 N6 r6)) := (Keeps.refl _ _).setCell (.inr (by simp)) _
      have hadd := hTE.addC (c := certOf u) hXcE hG6 hO6 hxE hxbE hks hset
      have m3 : w6.cell? ⟨bp, 3, none⟩ = some (Value.slice va NC vcap) := by simp [World.cell?, hb6]
      have mfz : ∀ o, w6.frozen? ⟨bp, o, none⟩ = false := fun o => by simp [World.frozen?, hb6]
      have mlt := lt_of_blk hb6
      replace hadd := Lib.hid hadd
      replace hkE := Lib.hid hkE
      replace hks := Lib.hid hks
      have hnX : X ∉ (Value.slice va NC vcap).ownBlock.toList := fun hm => (hT4.out.tag (mem_ownTc.2 (.inr (.inr (.inl (by simpa using hm)))))).not (by decide) _ _ hbX4.out
      have hb7 := (hks.out.block X (Nat.lt_of_lt_of_le (Nat.lt_of_lt_of_le (lt_of_blk hbX4.out) hkE.out.size) hG6.keepsO.size) (by simp; omega)).trans ((hG6.keepsO.block X (Nat.lt_of_lt_of_le (lt_of_blk hbX4.out) hkE.out.size) hnX).trans ((hkE.out.block X (lt_of_blk hbX4.out) (by simp)).trans hbX4.out))
      have hpre := ((Mv.nil hkd.out).trans (Mv.nil hkX.out)).trans ((Mv.nil hkE.out).trans hadd.out.2)
      replace hb7 := Lib.hid hb7
      replace hpre := Lib.hid hpre
      replace hN6 := Lib.hid hN6
      clear hnX hO6 hG6
      clear hmade hOE hTE hxE hXcE hxbE hb6 hset hltE
      (repeat (apply Free.cw_pure rfl rfl; (intro w'; go_simp <;> exact rfl); go_frame))
      refine Free.cw_loud rfl rfl (fun K hK => ?_)
      go_wp2
      refine hK _ _ rfl (Free.KeepsP.setCell _ (.inr ⟨trivial, rfl⟩) _) ?_
      clear hK K m3 mfz mlt
      refine Free.cw_nil ?_
      clear z0 z1 z2 z3 z4 z5 z6 zf zl c0 c1 c2 c3
      generalize (w6.setCell ⟨bp, 3, none⟩ (.slice n6 N6 r6)) = W7 at *
      obtain ⟨hT7, _⟩ := hadd.out
      replace hT7 := Lib.hid hT7
      have hTe := hT7.out.keeps (Keeps.refl [] W7).drew
      obtain ⟨c0, c1, c2, c3⟩ := hT7.out.cells
      obtain ⟨p0, p1, pf, pl⟩ := cl2 hb7.out
      have hne1 := hT7.out.ne
      have hne2 : X ≠ bm := by omega
      obtain ⟨w9, hrun, hM9, hk9⟩ := MapS.M.drop ktId Tryz.underlying78 hTe.mp (k := (i0, i1)) hid 0
      have hdel := hTe.del hi hk9 (by rw [hidp.out]; exact hM9)
      simp only [ktId, ipV] at hrun
      replace hdel := Lib.hid hdel
      replace hk9 := Lib.hid hk9
      clear hTe hM9
      go_upto_region 7 with fail
      refine Free.wp_region_chain (fun i => i == 5) (fun i => true) (fun j b => j = 5 ∧ b = bm) (by kernel_rfl) (by kernel_rfl) (by kernel_rfl) ?_
      (repeat (first | (apply Free.cw_pure rfl rfl; (intro w'; go_simp <;> exact rfl); go_frame) | (apply Free.cw_steady rfl rfl rfl; (intro w' hS; have q0 := Free.sx_cell hS c2 (fun _ _ hT => hne1 hT.2); have q1 := Free.sx_cell hS p0 (fun _ _ hT => hne2 hT.2); have q2 := Free.sx_cell hS p1 (fun _ _ hT => hne2 hT.2); go_simp <;> exact rfl); go_frame) | (refine Free.cw_skip rfl ?_; go_frame)))
      refine Free.cw_loud rfl rfl (fun K hK => ?_)
      go_wp2
      refine hK _ _ rfl (Free.KeepsP.of hk9.out (fun b hb => ⟨trivial, by simpa using hb⟩)) ?_
      clear hK K hrun c0 c1 c2 c3 p0 p1 pf pl
      refine Free.cw_nil ?_
      go_wp2
      go_ret
      exact ⟨.slice n6 N6 r6, A.eraseIdx i, by rw [h1.out]; rfl, by rw [hfin.out]; exact hdel.out.1, by rw [hNC.out]; exact hpre.out.trans ((Mv.nil (Keeps.refl [] W7).drew).trans hdel.out.2)⟩
    · have hs2 : (u.state == 2) = false := by simp [hs]
      have hs3 : decide (u.state = 2) = false := by simp [hs]
      have hfin2 := hfin.out
      rw [if_neg hs] at hfin2
      replace hfin2 := Lib.hid hfin2
      replace hs := Lib.hid hs
      have hTe := hTd.out.keeps (Keeps.refl [] WD).drew
      obtain ⟨c0, c1, c2, c3⟩ := hTd.out.cells
      obtain ⟨p0, p1, pf, pl⟩ := cl2 hbA'.out
      have hne1 := hTd.out.ne
      have hne2 : X ≠ bm := by omega
      obtain ⟨w9, hrun, hM9, hk9⟩ := MapS.M.drop ktId Tryz.underlying78 hTe.mp (k := (i0, i1)) hid 0
      have hdel := hTe.del hi hk9 (by rw [hidp.out]; exact hM9)
      simp only [ktId, ipV] at hrun
      replace hdel := Lib.hid hdel
      replace hk9 := Lib.hid hk9
      clear hTe hM9
      go_upto_region 7 with fail
      refine Free.wp_region_chain (fun i => i == 5) (fun i => true) (fun j b => j = 5 ∧ b = bm) (by kernel_rfl) (by kernel_rfl) (by kernel_rfl) ?_
      (repeat (first | (apply Free.cw_pure rfl rfl; (intro w'; go_simp <;> exact rfl); go_frame) | (apply Free.cw_steady rfl rfl rfl; (intro w' hS; have q0 := Free.sx_cell hS c2 (fun _ _ hT => hne1 hT.2); have q1 := Free.sx_cell hS p0 (fun _ _ hT => hne2 hT.2); have q2 := Free.sx_cell hS p1 (fun _ _ hT => hne2 hT.2); go_simp <;> exact rfl); go_frame) | (refine Free.cw_skip rfl ?_; go_frame)))
      refine Free.cw_loud rfl rfl (fun K hK => ?_)
      go_wp2
      refine hK _ _ rfl (Free.KeepsP.of hk9.out (fun b hb => ⟨trivial, by simpa using hb⟩)) ?_
      clear hK K hrun c0 c1 c2 c3 p0 p1 pf pl
      refine Free.cw_nil ?_
      go_wp2
      go_ret
      exact ⟨vc, A.eraseIdx i, by rw [h1.out]; rfl, by rw [hfin2.out]; exact hdel.out.1, by exact (Mv.nil hkd.out).trans ((Mv.nil (Keeps.refl [] WD).drew).trans hdel.out.2)⟩
  · rw [h3] at hlk
    simp only [Option.map_none, Option.getD_none, Option.isSome_none] at hlk
    have hfn : Hid (T.finish (i0, i1) = T) := Lib.hid (Tc.finish_none h1)
    replace h1 := Lib.hid h1
    clear h3
    refine Free.wp_region_chain (fun i => i == 5) (fun i => true) (fun _ _ => False) (by kernel_rfl) (by kernel_rfl) (by kernel_rfl) ?_
    (repeat (first | (apply Free.cw_pure rfl rfl; (intro w'; go_simp <;> exact rfl); go_frame) | (apply Free.cw_steady rfl rfl rfl; (intro w' hS; have q0 := Free.sx_cell hS c2 (fun _ _ hT => hT); have q1 := Free.sx_cell hS p0 (fun _ _ hT => hT); have q2 := Free.sx_cell hS p1 (fun _ _ hT => hT); go_simp <;> exact rfl); go_frame) | (refine Free.cw_skip rfl ?_; go_frame)))
    refine Free.cw_loud rfl rfl (fun K hK => ?_)
    go_wp2
    refine hK _ _ rfl (Free.KeepsP.refl _ _) ?_
    clear hK K hlk
    (repeat (first | (apply Free.cw_pure rfl rfl; (intro w'; go_simp <;> exact rfl); go_frame) | (apply Free.cw_steady rfl rfl rfl; (intro w' hS; have q0 := Free.sx_cell hS c2 (fun _ _ hT => hT); have q1 := Free.sx_cell hS p0 (fun _ _ hT => hT); have q2 := Free.sx_cell hS p1 (fun _ _ hT => hT); go_simp <;> exact rfl); go_frame) | (refine Free.cw_skip rfl ?_; go_frame)))
    refine Free.cw_nil ?_
    go_wp2
    go_ret
    exact ⟨vc, A, by rw [h1.out]; rfl, by rw [hfn.out]; exact hT.out.keeps (Keeps.refl [] W).drew, Mv.nil hkd.out⟩
end Go.Proofs.YtpobepninifenaaGreat

namespace Go.Proofs.YtpobepninifenaaGreat
open Go.RowKit

set_option maxRecDepth 100000 in
set_option maxHeartbeats 2000000 in
theorem cloneA_c (w : World) (v : Value) (L : List AnV) (h : shA.R w v L) (hl : L.length ≤ 100000000000) :
    Calls Tryz.prog 88 #[v] w fun e w' => ∃ v', e = .returned v' ∧ shA.O w' w.heap.size tA v' L ∧ Keeps [] w w' := by
  have q22 : ∀ (w : World) (a : Option Addr) (n c n' c' : Nat), (binOp .eql 67 (.slice a n c) (.slice none n' c')).run Tryz.prog w = .ok (.bool a.isNone) w := fun w a n c n' c' => Lib.run_eql_slice_nil w _ _ a n c n' c' Tryz.underlying67
  obtain ⟨a, c, rfl, hlc, hcm, hnil⟩ := h.form
  obtain ⟨M, hM⟩ : ∃ M, L.length = M := ⟨_, rfl⟩
  rw [hM] at hl hlc h ⊢
  replace hM := Lib.hid hM
  replace h := Lib.hid h
  cases a with
  | none =>
    have h0 := hnil rfl
    have hL : L = [] := List.length_eq_zero_iff.1 (by rw [hM.out]; omega)
    replace hL := Lib.hid hL
    clear hnil
    go_enter Tryz.func88, Tryz.ntmps88
    go_wp2
    go_ret
    exact ⟨_, rfl, by rw [hL.out]; exact Sh.O.nil _ _ _ _, Keeps.refl _ _⟩
  | some ad =>
    clear hnil
    go_enter Tryz.func88, Tryz.ntmps88
    go_wp2_with (at_builtin; (refine Sh.wpl_app shA w.heap.size infoA rfl Tryz.underlying67 (.slice (some ⟨w.heap.size, 0, none⟩) 0 0) (.slice (some ad) M c) [] L rfl (.tmp 5) (.tmp 6) rfl rfl rfl (Sh.O.fresh _ w _ _ (Nat.le_refl _)) (h.out.keeps ((Keeps.refl [] w).alloc _)) (by have := hM.out; simp only [List.length_nil]; omega) (by simp) ?_; intro v2 w2 hO2 hG2; have hkk2 := Lib.hid (hG2.keeps ((Keeps.refl [] w).alloc _) (by simp [Value.ownBlock])); have hO2' := Lib.hid hO2; clear hO2 hG2))
    go_ret
    exact ⟨_, rfl, hO2'.out, hkk2.out⟩
set_option maxRecDepth 100000 in
set_option maxHeartbeats 2000000 in
theorem cloneC_c (w : World) (v : Value) (L : List ClV) (h : shC.R w v L) (hl : L.length ≤ 100000000000) :
    Calls Tryz.prog 89 #[v] w fun e w' => ∃ v', e = .returned v' ∧ shC.O w' w.heap.size tC v' L ∧ Keeps [] w w' := by
  have q22 : ∀ (w : World) (a : Option Addr) (n c n' c' : Nat), (binOp .eql 68 (.slice a n c) (.slice none n' c')).run Tryz.prog w = .ok (.bool a.isNone) w := fun w a n c n' c' => Lib.run_eql_slice_nil w _ _ a n c n' c' Tryz.underlying68
  obtain ⟨a, c, rfl, hlc, hcm, hnil⟩ := h.form
  obtain ⟨M, hM⟩ : ∃ M, L.length = M := ⟨_, rfl⟩
  rw [hM] at hl hlc h ⊢
  replace hM := Lib.hid hM
  replace h := Lib.hid h
  cases a with
  | none =>
    have h0 := hnil rfl
    have hL : L = [] := List.length_eq_zero_iff.1 (by rw [hM.out]; omega)
    replace hL := Lib.hid hL
    clear hnil
    go_enter Tryz.func89, Tryz.ntmps89
    go_wp2
    go_ret
    exact ⟨_, rfl, by rw [hL.out]; exact Sh.O.nil _ _ _ _, Keeps.refl _ _⟩
  | some ad =>
    clear hnil
    go_enter Tryz.func89, Tryz.ntmps89
    go_wp2_with (at_builtin; (refine Sh.wpl_app shC w.heap.size infoC rfl Tryz.underlying68 (.slice (some ⟨w.heap.size, 0, none⟩) 0 0) (.slice (some ad) M c) [] L rfl (.tmp 5) (.tmp 6) rfl rfl rfl (Sh.O.fresh _ w _ _ (Nat.le_refl _)) (h.out.keeps ((Keeps.refl [] w).alloc _)) (by have := hM.out; simp only [List.length_nil]; omega) (by simp) ?_; intro v2 w2 hO2 hG2; have hkk2 := Lib.hid (hG2.keeps ((Keeps.refl [] w).alloc _) (by simp [Value.ownBlock])); have hO2' := Lib.hid hO2; clear hO2 hG2))
    go_ret
    exact ⟨_, rfl, hO2'.out, hkk2.out⟩
set_option maxRecDepth 100000 in
set_option maxHeartbeats 2000000 in
theorem cloneN_c (w : World) (v : Value) (L : List T3) (h : shT.R w v L) (hl : L.length ≤ 100000000000) :
    Calls Tryz.prog 91 #[v] w fun e w' => ∃ v', e = .returned v' ∧ shT.O w' w.heap.size tN v' L ∧ Keeps [] w w' := by
  have q22 : ∀ (w : World) (a : Option Addr) (n c n' c' : Nat), (binOp .eql 85 (.slice a n c) (.slice none n' c')).run Tryz.prog w = .ok (.bool a.isNone) w := fun w a n c n' c' => Lib.run_eql_slice_nil w _ _ a n c n' c' Tryz.underlying85
  obtain ⟨a, c, rfl, hlc, hcm, hnil⟩ := h.form
  obtain ⟨M, hM⟩ : ∃ M, L.length = M := ⟨_, rfl⟩
  rw [hM] at hl hlc h ⊢
  replace hM := Lib.hid hM
  replace h := Lib.hid h
  cases a with
  | none =>
    have h0 := hnil rfl
    have hL : L = [] := List.length_eq_zero_iff.1 (by rw [hM.out]; omega)
    replace hL := Lib.hid hL
    clear hnil
    go_enter Tryz.func91, Tryz.ntmps91
    go_wp2
    go_ret
    exact ⟨_, rfl, by rw [hL.out]; exact Sh.O.nil _ _ _ _, Keeps.refl _ _⟩
  | some ad =>
    clear hnil
    go_enter Tryz.func91, Tryz.ntmps91
    go_wp2_with (at_builtin; (refine Sh.wpl_app shT w.heap.size infoN rfl Tryz.underlying85 (.slice (some ⟨w.heap.size, 0, none⟩) 0 0) (.slice (some ad) M c) [] L rfl (.tmp 5) (.tmp 6) rfl rfl rfl (Sh.O.fresh _ w _ _ (Nat.le_refl _)) (h.out.keeps ((Keeps.refl [] w).alloc _)) (by have := hM.out; simp only [List.length_nil]; omega) (by simp) ?_; intro v2 w2 hO2 hG2; have hkk2 := Lib.hid (hG2.keeps ((Keeps.refl [] w).alloc _) (by simp [Value.ownBlock])); have hO2' := Lib.hid hO2; clear hO2 hG2))
    go_ret
    exact ⟨_, rfl, hO2'.out, hkk2.out⟩
theorem results_ct1 {fn : Func} {p : Tmp} (h : fn.results = #[.cell p tCt]) (tmps : Array Value) (w : World) (g : Nat) (t : TypeId) (x0 x1 x2 x3 x4 x5 x6 : Value) (f : Nat × Nat) (hp : tmps.getD p undef = .pointer (some ⟨g, 0, none⟩))
    (hg : w.heap[g]? = some (.cells #[x0, x1, x2, x3, x4, x5, x6] t f)) : (results fn tmps).run Tryz.prog w = .ok (.agg #[x0, x1, x2, x3, x4, x5, x6]) w := by
  have hp' : tmps[p]?.getD undef = .pointer (some ⟨g, 0, none⟩) := by simpa using hp
  simp [results, h, hp', asAddr, load_ct w g t x0 x1 x2 x3 x4 x5 x6 f hg]
end Go.Proofs.YtpobepninifenaaGreat
