/- Texts that the laws lean on, in the order in which they build. The specification's Start. (Printed by mkurd.py.) The specification's Certificate and With. (Printed by mkurg.py.) The specification's Finish. (Printed by mkurh.py.) The law's operations: their cells; its few. Trace.pending. Trace.Refuse. -/
import Derived.Test.YtpobepninifenaaGreatS10
set_option linter.unusedVariables false
set_option linter.unusedSimpArgs false
namespace Go.Proofs.YtpobepninifenaaGreat
open Go Go.RowKit

theorem infoRf : (Tryz.prog.info? tR).map (fun i => (i.zero, i.size, i.bytes)) = some (some (rfV ⟨0, 0, 0, 0, 0, 0, (none, 0, 0), (none, 0, 0), 0, (none, 0, 0), false, (none, 0, 0)⟩), 12, 160) := by kernel_rfl
/-- A new trace of the specification, out of blocks from B0 on. -/
def NewP (B0 : Nat) (im is : Int) (st : T3) (w : World) (y : RfV) : Prop := ∃ vo va, y = rf0 im is st vo va ∧ shT.O w B0 tN (slv vo) [(im, st.2.1, st.1)] ∧ shA.O w B0 tA (slv va) [AnV.zero]
theorem NewP.keepD {B0 : Nat} {im is : Int} {st : T3} {w w' : World} {D : List Nat} {y : RfV} (hD : ∀ b ∈ D, ∃ cs f, w.heap[b]? = some (Obj.cells cs tR f)) (hk : Keeps D w w') (h : NewP B0 im is st w y) : NewP B0 im is st w' y := by
  obtain ⟨vo, va, e1, h1, h2⟩ := h
  exact ⟨vo, va, e1, h1.keepS hk (fun b' hb' e2 => by obtain ⟨cs, f, hb⟩ := hD _ hb'; obtain ⟨cs', hc⟩ := h1.tag _ e2; exact tag_ne hb hc (by decide) rfl), h2.keepS hk (fun b' hb' e2 => by obtain ⟨cs, f, hb⟩ := hD _ hb'; obtain ⟨cs', hc⟩ := h2.tag _ e2; exact tag_ne hb hc (by decide) rfl)⟩
theorem NewP.r {B0 : Nat} {im is : Int} {st : T3} {w : World} {y : RfV} (h : NewP B0 im is st w y) : RfR w y (Tr.new im is st) ∧ ∀ b ∈ blks y, B0 ≤ b ∧ b < w.heap.size := by
  obtain ⟨vo, va, rfl, hO, hA⟩ := h
  refine ⟨⟨rfl, rfl, rfl, rfl, rfl, rfl, rfl, rfl, hO.r, ⟨_, hA.r, rfl, fun k x p h1 h2 => ?_⟩, Sh.R.nil _ _, ⟨[], Sh.R.nil _ _, LA.nil _⟩⟩, fun b hb => ?_⟩
  · cases k with
    | zero =>
      simp [Tr.new] at h1 h2
      subst h1 h2
      rfl
    | succ k => simp at h1
  · rcases mem_blks.1 hb with h | h | h | h
    · exact ⟨hO.ge b h, hO.lt b h⟩
    · exact ⟨hA.ge b h, hA.lt b h⟩
    · simp [rf0, Value.ownBlock] at h
    · simp [rf0, Value.ownBlock] at h
namespace RtR
variable {O O' : List Nat} {w w' : World} {x : RtV} {T : Tc}
theorem sub (h : RtR O w x T) (hO : ∀ b ∈ O', b < w.heap.size → b ∈ O) : RtR O' w x T := by
  obtain ⟨X, h1, h2, h3, h4⟩ := h.ac
  obtain ⟨Y, g1, g2, g3, g4⟩ := h.cs
  have hn : ∀ b, b < w.heap.size ∧ b ∉ O → b < w.heap.size ∧ b ∉ O' := fun b hb => ⟨hb.1, fun hm => hb.2 (hO b hm hb.1)⟩
  exact ⟨h.m, h.s, ⟨X, h1, fun b hb => hn b (h2 b hb), h3, fun k y t e1 e2 => ⟨(h4 k y t e1 e2).1, fun b hb => hn b ((h4 k y t e1 e2).2 b hb)⟩⟩, ⟨Y, g1, fun b hb => hn b (g2 b hb), g3, fun k y c e1 e2 => ⟨(g4 k y c e1 e2).1, fun b hb => hn b ((g4 k y c e1 e2).2 b hb)⟩⟩⟩
/-- Blocks of O are written, none of claims, needs, insets. -/
theorem keepO {D : List Nat} (h : RtR O w x T) (hk : Keeps D w w') (hD : ∀ b ∈ D, b ∈ O ∧ ∀ (cs : Array Value) (f : Nat × Nat), w.heap[b]? ≠ some (Obj.cells cs tC f) ∧ w.heap[b]? ≠ some (Obj.cells cs tN f) ∧ w.heap[b]? ≠ some (Obj.cells cs tI f)) : RtR O w' x T := by
  obtain ⟨X, h1, h2, h3, h4⟩ := h.ac
  obtain ⟨Y, g1, g2, g3, g4⟩ := h.cs
  have hs := hk.size
  have hi : KI w w' := hk.ki (fun b hb cs f => ((hD b hb).2 cs f).2.2)
  have hn : ∀ b, b < w.heap.size ∧ b ∉ O → b < w'.heap.size ∧ b ∉ O := fun b hb => ⟨by omega, hb.2⟩
  have hd : ∀ b, b ∉ O → b ∉ D := fun b hb hm => hb (hD b hm).1
  exact ⟨h.m, h.s, ⟨X, h1.keepS hk (fun b hb e => (h2 b e).2 (hD b hb).1), fun b hb => hn b (h2 b hb), h3, fun k y t e1 e2 => ⟨(h4 k y t e1 e2).1.moved hk hi (fun b hb e => ((h4 k y t e1 e2).2 b e).2 (hD b hb).1), fun b hb => hn b ((h4 k y t e1 e2).2 b hb)⟩⟩,
    ⟨Y, g1.keepS hk (fun b hb e => (g2 b e).2 (hD b hb).1), fun b hb => hn b (g2 b hb), g3, fun k y c e1 e2 => ⟨(g4 k y c e1 e2).1.keepG hk hi (fun b hb cs f => ⟨((hD b hb).2 cs f).1, ((hD b hb).2 cs f).2.1⟩) (fun b hb => hd b ((g4 k y c e1 e2).2 b hb).2), fun b hb => hn b ((g4 k y c e1 e2).2 b hb)⟩⟩⟩
end RtR
theorem sizeRt : (Tryz.prog.info? tRc).map (·.size) = some 4 := by kernel_rfl
theorem load_rt (w : World) (g : Nat) (t : TypeId) (x0 x1 x2 x3 : Value) (f : Nat × Nat) (hg : w.heap[g]? = some (.cells #[x0, x1, x2, x3] t f)) : (loadVar tRc ⟨g, 0, none⟩).run Tryz.prog w = .ok (.agg #[x0, x1, x2, x3]) w :=
  run_loadVar_row w g t tRc #[x0, x1, x2, x3] f _ hg Tryz.underlying30 rfl sizeRt
theorem results_rt2 {fn : Func} {p u : Tmp} (h : fn.results = #[.cell p tRc, .tmp u]) (tmps : Array Value) (w : World) (g : Nat) (t : TypeId) (x0 x1 x2 x3 : Value) (f : Nat × Nat) (hp : tmps.getD p undef = .pointer (some ⟨g, 0, none⟩))
    (hg : w.heap[g]? = some (.cells #[x0, x1, x2, x3] t f)) : (results fn tmps).run Tryz.prog w = .ok (.tuple #[.agg #[x0, x1, x2, x3], tmps.getD u undef]) w := by
  have hp' : tmps[p]?.getD undef = .pointer (some ⟨g, 0, none⟩) := by simpa using hp
  simp [results, h, hp', asAddr, load_rt w g t x0 x1 x2 x3 f hg]
theorem results_rt1 {fn : Func} {p : Tmp} (h : fn.results = #[.cell p tRc]) (tmps : Array Value) (w : World) (g : Nat) (t : TypeId) (x0 x1 x2 x3 : Value) (f : Nat × Nat) (hp : tmps.getD p undef = .pointer (some ⟨g, 0, none⟩))
    (hg : w.heap[g]? = some (.cells #[x0, x1, x2, x3] t f)) : (results fn tmps).run Tryz.prog w = .ok (.agg #[x0, x1, x2, x3]) w := by
  have hp' : tmps[p]?.getD undef = .pointer (some ⟨g, 0, none⟩) := by simpa using hp
  simp [results, h, hp', asAddr, load_rt w g t x0 x1 x2 x3 f hg]
/-- Rows of traces, out of blocks that are none of O. -/
def Rw5 (O : List Nat) (w : World) (X : List RfV) (A : List Tr) : Prop := X.length = A.length ∧ ∀ (k : Nat) (y : RfV) (t : Tr), X[k]? = some y → A[k]? = some t → RfR w y t ∧ ∀ b ∈ blks y, b < w.heap.size ∧ b ∉ O
theorem Rw5.keeps {O : List Nat} {w w' : World} {X : List RfV} {A : List Tr} (h : Rw5 O w X A) (hk : Keeps [] w w') : Rw5 O w' X A :=
  ⟨h.1, fun k y t e1 e2 => ⟨(h.2 k y t e1 e2).1.keeps hk, fun b hb => ⟨Nat.lt_of_lt_of_le ((h.2 k y t e1 e2).2 b hb).1 hk.size, ((h.2 k y t e1 e2).2 b hb).2⟩⟩⟩
theorem Rw5.keepO {O D : List Nat} {w w' : World} {X : List RfV} {A : List Tr} (h : Rw5 O w X A) (hk : Keeps D w w') (hD : ∀ b ∈ D, b ∈ O ∧ ∀ (cs : Array Value) (f : Nat × Nat), w.heap[b]? ≠ some (Obj.cells cs tI f)) : Rw5 O w' X A :=
  ⟨h.1, fun k y t e1 e2 => ⟨(h.2 k y t e1 e2).1.moved hk (hk.ki (fun b hb cs f => (hD b hb).2 cs f)) (fun b hb e => ((h.2 k y t e1 e2).2 b e).2 (hD b hb).1), fun b hb => ⟨Nat.lt_of_lt_of_le ((h.2 k y t e1 e2).2 b hb).1 hk.size, ((h.2 k y t e1 e2).2 b hb).2⟩⟩⟩
theorem Rw5.snoc {O : List Nat} {w : World} {X : List RfV} {A : List Tr} {y : RfV} {u : Tr} (h : Rw5 O w X A) (hy : RfR w y u) (hb : ∀ b ∈ blks y, b < w.heap.size ∧ b ∉ O) : Rw5 O w (X ++ [y]) (A ++ [u]) := by
  obtain ⟨h1, h2⟩ := h
  refine ⟨by simp [h1], fun k a t ha ht => ?_⟩
  rcases Nat.lt_trichotomy k X.length with hk | hk | hk
  · rw [List.getElem?_append_left hk] at ha
    rw [List.getElem?_append_left (by omega)] at ht
    exact h2 k a t ha ht
  · rw [List.getElem?_append_right (by omega), show k - X.length = 0 by omega] at ha
    rw [List.getElem?_append_right (by omega), show k - A.length = 0 by omega] at ht
    simp at ha ht
    subst ha ht
    exact ⟨hy, hb⟩
  · rw [List.getElem?_eq_none (by simp; omega)] at ha; cases ha
/-- Other rows. -/
theorem RtR.rows {O : List Nat} {w : World} {x : RtV} {T : Tc} (h : RtR O w x T) {va : Option Addr × Nat × Nat} {X : List RfV} {A : List Tr} (hX : shRf.R w (slv va) X) (hb : ∀ b, (slv va).ownBlock = some b → b < w.heap.size ∧ b ∉ O) (hr : Rw5 O w X A) : RtR O w ⟨x.m, x.s, va, x.vc⟩ { T with act := A } :=
  ⟨h.m, h.s, ⟨X, hX, hb, hr.1, hr.2⟩, h.cs⟩
theorem RtR.eqM {O : List Nat} {w : World} {x : RtV} {m m' s : Int} {A : List Tr} {C : List Ct} (h : RtR O w x ⟨m, s, A, C⟩) (e : m' = m) : RtR O w x ⟨m', s, A, C⟩ := e ▸ h
theorem RtR.setS {O : List Nat} {w : World} {x : RtV} {T : Tc} (h : RtR O w x T) (s : Int) : RtR O w ⟨x.m, s, x.va, x.vc⟩ { T with s := s } := ⟨h.m, rfl, h.ac, h.cs⟩
def RStartPost (O : List Nat) (w : World) (T : Tc) (S : List Sm) (e : Ending) (w' : World) : Prop :=
  ∃ x' v, e = .returned (.tuple #[rtV x', v]) ∧ RtR O w' x' (T.start S) ∧ shId.O w' w.heap.size tId v (T.startIds S) ∧ Keeps [] w w'
/-- The parts of the loop's state. -/
def RsI (O : List Nat) (w wr : World) (B : Nat) (T : Tc) (x0 s9 : Int) (va vc : Option Addr × Nat × Nat) : Prop :=
  RtR (B :: (B + 1) :: O) wr ⟨x0, s9, va, vc⟩ T ∧ wr.heap[B]? = some (.cells #[.int .i64 x0, .int .i64 s9, slv va, slv vc] tRc (0, 0)) ∧ wr.heap[B + 1]? = some (.cells #[.int .i64 0, .int .i64 0, .slice none 0 0, .slice none 0 0] tRc (0, 0)) ∧ Keeps [] w wr
theorem RsI.keeps {O : List Nat} {w wr w1 : World} {B : Nat} {T : Tc} {x0 s9 : Int} {va vc : Option Addr × Nat × Nat} (h : RsI O w wr B T x0 s9 va vc) (hk : Keeps [] wr w1) : RsI O w w1 B T x0 s9 va vc :=
  ⟨h.1.keeps hk, (hk.block _ (lt_of_blk h.2.1) (by simp)).trans h.2.1, (hk.block _ (lt_of_blk h.2.2.1) (by simp)).trans h.2.2.1, h.2.2.2.trans hk⟩
set_option maxRecDepth 100000 in
set_option maxHeartbeats 8000000 in
theorem rstart_c (O : List Nat) (w : World) (x : RtV) (T : Tc) (S : List Sm) (v : Value) (h : RtR O w x T) (hO : ∀ b ∈ O, b < w.heap.size) (hS : Sms w v S) (hfit : ∀ x ∈ S, smOk x) (n k0 : Nat) (ho : T.Ok n k0) (hlen : k0 + S.length ≤ 10000) :
    Calls Tryz.prog 28 #[rtV x, v] w (RStartPost O w T S) := by
  obtain ⟨X, hX, hXS⟩ := hS
  have hXl : X.length = S.length := by rw [← hXS, List.length_map]
  obtain ⟨sa, scp, rfl, hl1, hl2, _⟩ := hX.form
  obtain ⟨N, hN⟩ : ∃ n, X.length = n := ⟨_, rfl⟩
  rw [hN] at hX hl1 hXl ⊢
  have hNm : N ≤ 10000 := by omega
  obtain ⟨x0, s9, ⟨x2, x3, x4⟩, ⟨x5, x6, x7⟩⟩ := x
  obtain ⟨hb1, hb2, hkW, hzW⟩ := blks2 w (.cells #[.int .i64 x0, .int .i64 s9, .slice x2 x3 x4, .slice x5 x6 x7] tRc) (.cells #[.int .i64 0, .int .i64 0, .slice none 0 0, .slice none 0 0] tRc)
  have hRB : RtR (w.heap.size :: (w.heap.size + 1) :: O) w ⟨x0, s9, (x2, x3, x4), (x5, x6, x7)⟩ T := h.sub (fun b hb hl => by
    simp only [List.mem_cons] at hb
    rcases hb with e | e | e
    · omega
    · omega
    · exact e)
  replace h := Lib.hid h
  replace hO := Lib.hid hO
  replace hX := Lib.hid hX
  replace hXS := Lib.hid hXS
  replace hXl := Lib.hid hXl
  replace hN := Lib.hid hN
  replace hfit := Lib.hid hfit
  replace ho := Lib.hid ho
  replace hlen := Lib.hid hlen
  simp only [rtV, slv]
  go_enter Tryz.func28, Tryz.ntmps28
  go_upto_region 1 with fail
  generalize ((w.alloc (.cells #[.int .i64 x0, .int .i64 s9, .slice x2 x3 x4, .slice x5 x6 x7] tRc)).alloc (.cells #[.int .i64 0, .int .i64 0, .slice none 0 0, .slice none 0 0] tRc)) = W at *
  obtain ⟨B, hB⟩ : ∃ B, w.heap.size = B := ⟨_, rfl⟩
  unfold RStartPost
  rw [hB] at hb1 hb2 hzW hRB ⊢
  have hI0 : RsI ((Value.slice (some ⟨W.heap.size, 0, none⟩) 0 0).ownBlock.toList ++ O) w W B T x0 s9 (x2, x3, x4) (x5, x6, x7) := ⟨(hRB.keeps hkW).sub (fun b hb hl => by
    simp only [Value.ownBlock, Option.toList, List.mem_cons, List.mem_append, List.not_mem_nil, or_false, false_or] at hb ⊢
    rcases hb with e | e | e | e
    · exact .inl e
    · exact .inr (.inl e)
    · omega
    · exact .inr (.inr e)), hb1, hb2, hkW⟩
  have hOn := Sh.O.fresh shId W B tId (by omega)
  have hI1 := hI0.keeps ((Keeps.refl [] W).alloc (.cells #[] tId))
  replace hB := Lib.hid hB
  replace hzW := Lib.hid hzW
  replace hOn := Lib.hid hOn
  replace hI1 := Lib.hid hI1
  clear hb1 hb2 hkW hRB hI0
  go_wp2
  go_loopw [6, 7] (fun ov i wr => ∃ (k : Nat) (s9 : Int) (va : Option Addr × Nat × Nat), i = .int .i64 k ∧ k ≤ N ∧ Hid (shId.O wr B tId ov (T.startIds (S.take k))) ∧ Hid (RsI (ov.ownBlock.toList ++ O) w wr B (T.start (S.take k)) x0 s9 va (x5, x6, x7))) (fun _ i _ => N - (intOf i).toNat)
  case atStart => exact ⟨0, s9, (x2, x3, x4), rfl, by omega, hOn, hI1⟩
  case round =>
    clear hOn hI1
    obtain ⟨k, s9, ⟨x2, x3, x4⟩, rfl, hk, hOi, hI⟩ := hrel
    obtain ⟨oa, oc, rfl⟩ := hOi.out.form
    obtain ⟨O1, hO1e⟩ : ∃ l, (Value.slice oa (T.startIds (S.take k)).length oc).ownBlock.toList ++ O = l := ⟨_, rfl⟩
    rw [hO1e] at hI
    have hLk : (T.startIds (S.take k)).length ≤ k := Nat.le_trans (startIds_len T _ _) (by rw [List.length_take]; omega)
    obtain ⟨NN, hNN⟩ : ∃ m, (T.startIds (S.take k)).length = m := ⟨_, rfl⟩
    rw [hNN] at hOi hLk hO1e ⊢
    replace hNN := Lib.hid hNN
    replace hO1e := Lib.hid hO1e
    by_cases hlt : k < N
    · have hlt2 : (k : Int) < N := by omega
      have hlt3 : decide ((k : Int) < (N : Int)) = true := by simp; omega
      have hkX : k < X.length := by rw [hN.out]; exact hlt
      have hkS : k < S.length := by rw [← hXl.out]; exact hlt
      obtain ⟨g, o, c', hv, he⟩ := (hX.out.keeps hI.out.2.2.2).elem hkX
      rw [hN.out] at hv
      cases hv
      have hst := T.start_take S k hkS
      have hsi := T.startIds_take S k hkS
      have hsk : S[k] = X[k].p := by simp [← hXS.out]
      have hfk := hfit.out _ (List.getElem_mem hkS)
      rw [hsk] at hst hsi hfk
      obtain ⟨⟨y0, y1, y2, y3, ⟨y4, y5, y6⟩⟩, hy⟩ : ∃ y, X[k] = y := ⟨_, rfl⟩
      rw [hy] at he hst hsi hfk
      have e0 := he 0 _ rfl
      have e1 := he 1 _ rfl
      simp only [shSm, SmV.cs, Nat.add_zero] at e0 e1
      simp only [SmV.p] at hst hsi hfk
      have hoK := ho.out.start (S.take k)
      have hkk : k0 + (S.take k).length ≤ 10000 := by rw [List.length_take]; have := hlen.out; omega
      obtain ⟨TK, hTK⟩ : ∃ t, T.start (S.take k) = t := ⟨_, rfl⟩
      rw [hTK] at hI hst hsi hoK
      have hAl : TK.act.length ≤ 10000 := by have h2 := hoK.al; omega
      have hs64 : -9223372036854775808 ≤ TK.s + 1 ∧ TK.s + 1 ≤ 9223372036854775807 := by have h1 := hoK.s0; have h2 := hoK.s1; omega
      have hse : s9 = TK.s := hI.out.1.s
      have hme : x0 = TK.m := hI.out.1.m
      have hs65 : -9223372036854775808 ≤ s9 + 1 ∧ s9 + 1 ≤ 9223372036854775807 := by rw [hse]; exact hs64
      have hcb := fun (W : World) (hk : Keeps [] wr W) => rbegins_c _ W _ TK (hI.out.1.keeps hk) (y0, y1, 0) (by omega)
      obtain ⟨z0, z1, z2, z3, zf, zl⟩ := cl4 hI.out.2.1
      have hBw : B < wr.heap.size := zl
      simp only [rtV, slv] at hcb
      replace hcb := Lib.hid hcb
      replace hst := Lib.hid hst
      replace hsi := Lib.hid hsi
      replace hfk := Lib.hid hfk
      replace hoK := Lib.hid hoK
      replace hTK := Lib.hid hTK
      replace hy := Lib.hid hy
      replace hsk := Lib.hid hsk
      replace hse := Lib.hid hse
      replace hme := Lib.hid hme
      replace hs64 := Lib.hid hs64
      clear he
      go_upto_region 5 with fail
      obtain ⟨X5, hX5⟩ : ∃ m, wr.heap.size = m := ⟨_, rfl⟩
      refine Free.wp_region_chain (fun i => i == 11 || i == 12) (fun i => true) (fun j b => j = 12 ∧ b = X5) (by kernel_rfl) (by kernel_rfl) (by kernel_rfl) ?_
      (repeat (first | (apply Free.cw_pure rfl rfl; (intro w'; go_simp <;> exact rfl); go_frame) | (apply Free.cw_steady rfl rfl rfl; (intro w' hS; have q0 := Free.sx_cell hS e0 (fun _ _ hT => by have := lt_of_cell e0; have := hT.2; omega); have q1 := Free.sx_cell hS e1 (fun _ _ hT => by have := lt_of_cell e1; have := hT.2; omega); go_simp <;> exact rfl); go_frame) | (refine Free.cw_skip rfl ?_; go_frame)))
      refine Free.cw_loud rfl rfl (fun K hK => ?_)
      go_wp2
      refine hK _ _ rfl (Free.KeepsP.alloc _ _ _) ?_
      clear hK K
      (repeat (apply Free.cw_pure rfl rfl; (intro w'; go_simp <;> exact rfl); go_frame))
      refine Free.cw_loud rfl rfl (fun K hK => ?_)
      have hbI : ((wr.alloc (.cells #[.int .i64 0, .int .u64 0, .int .i64 0] tN)).drew).heap[wr.heap.size]? = _ := heap_alloc_new wr (.cells #[.int .i64 0, .int .u64 0, .int .i64 0] tN)
      have hk9 : Keeps [] wr ((wr.alloc (.cells #[.int .i64 0, .int .u64 0, .int .i64 0] tN)).drew) := ((Keeps.refl [] wr).alloc _).drew
      generalize ((wr.alloc (.cells #[.int .i64 0, .int .u64 0, .int .i64 0] tN)).drew) = W9 at *
      rw [hX5] at hbI
      obtain ⟨m0, m1, m2, mf, ml⟩ := cl3 hbI
      obtain ⟨hs1, hs2⟩ := sc3 (.int .i64 y0) (.int .u64 y1) (.int .i64 0) hbI
      go_wp2
      refine hK _ _ rfl (Free.KeepsP.of hs2 (fun b hb => ⟨trivial, by simpa using hb⟩)) ?_
      clear hK K m0 m1 m2 mf ml e0 e1 z0 z1 z2 z3 zf zl
      generalize (((W9.setCell ⟨X5, 0, none⟩ (.int .i64 y0)).setCell ⟨X5, 1, none⟩ (.int .u64 y1)).setCell ⟨X5, 2, none⟩ (.int .i64 0)) = W5 at *
      have hk5 : Keeps [] wr W5 := hk9.fresh hs2 (fun b hb => .inr (by simp at hb; subst hb; exact Nat.le_of_eq hX5))
      have hI5 := hI.out.keeps hk5
      replace hs1 := Lib.hid hs1
      replace hX5 := Lib.hid hX5
      replace hk5 := Lib.hid hk5
      replace hI5 := Lib.hid hI5
      clear hbI hk9 hs2
      refine Free.cw_nil ?_
      obtain ⟨n0, n1, n2, nf, nl⟩ := cl3 hs1.out
      obtain ⟨z0, z1, z2, z3, zf, zl⟩ := cl4 hI5.out.2.1
      obtain ⟨fb, hfb⟩ : ∃ b, TK.begins (y0, y1, 0) = b := ⟨_, rfl⟩
      simp only [hfb, tV] at hcb
      replace hfb := Lib.hid hfb
      go_wp2_with fail
      refine (hcb.out W5 hk5.out).mono ?_
      rintro e w6 ⟨rfl, hk6⟩
      clear n0 n1 n2 nf nl z0 z1 z2 z3 zf zl hcb
      have hs6 := Lib.hid ((hk6.block _ (lt_of_blk hs1.out) (by simp)).trans hs1.out)
      have hI6 := Lib.hid (hI5.out.keeps hk6)
      have hkr6 := Lib.hid (hk5.out.trans hk6)
      clear hk6 hs1 hI5 hk5
      cases fb with
      | true =>
        have e1 : TK.start1 (y0, y1) = TK := by unfold Tc.start1; rw [if_pos hfb.out]
        have e2 : TK.ids1 (y0, y1) = [] := by unfold Tc.ids1; rw [if_pos hfb.out]
        have hst2 := hst.out
        have hsi2 := hsi.out
        rw [e1] at hst2
        rw [e2, List.append_nil] at hsi2
        have hO2 : Hid (shId.O w6 B tId (.slice oa NN oc) (T.startIds (S.take (k + 1)))) := Lib.hid (by rw [hsi2]; exact hOi.out.keeps hkr6.out)
        have hI2 : Hid (RsI ((Value.slice oa NN oc).ownBlock.toList ++ O) w w6 B (T.start (S.take (k + 1))) x0 s9 (x2, x3, x4) (x5, x6, x7)) := Lib.hid (by rw [hst2, hO1e.out]; exact hI6.out)
        clear e1 e2 hst2 hsi2 hs65
        go_wp2
        go_roundw
        case rel => exact ⟨k + 1, s9, (x2, x3, x4), rfl, by omega, hO2, hI2⟩
        case measure => simp [intOf]; omega
      | false =>
        have e1 : TK.start1 (y0, y1) = { TK with s := TK.s + 1, act := TK.act ++ [Tr.new TK.m (TK.s + 1) (y0, y1, 0)] } := by unfold Tc.start1; rw [if_neg (by show ¬ TK.begins (y0, y1, 0) = true; rw [hfb.out]; decide)]
        have e2 : TK.ids1 (y0, y1) = [(TK.m, TK.s + 1)] := by unfold Tc.ids1; rw [if_neg (by show ¬ TK.begins (y0, y1, 0) = true; rw [hfb.out]; decide)]
        have hst2 := hst.out
        have hsi2 := hsi.out
        rw [e1] at hst2
        rw [e2] at hsi2
        rw [← hse.out, ← hme.out] at hst2 hsi2
        replace hst2 := Lib.hid hst2
        replace hsi2 := Lib.hid hsi2
        clear e1 e2 hst hsi
        obtain ⟨z0, z1, z2, z3, zf, zl⟩ := cl4 hI6.out.2.1
        have hset : Keeps [B] w6 (w6.setCell ⟨B, 1, none⟩ (.int .i64 (s9 + 1))) := (Keeps.refl [B] w6).setCell (.inr (by simp)) _
        have hsb := setCs hI6.out.2.1 1 (.int .i64 (s9 + 1))
        replace hset := Lib.hid hset
        replace hsb := Lib.hid hsb
        go_upto_region 9 with fail
        have hR7 := hI6.out.1.keepO hset.out (fun b hb => by
          simp at hb; subst hb
          exact ⟨by simp, fun cs f => ⟨fun e => tag_ne hI6.out.2.1 e (by decide) rfl, fun e => tag_ne hI6.out.2.1 e (by decide) rfl, fun e => tag_ne hI6.out.2.1 e (by decide) rfl⟩⟩)
        have hR7s := hR7.setS (s9 + 1)
        have hZ7 := (hset.out.block (B + 1) (lt_of_blk hI6.out.2.2.1) (by simp)).trans hI6.out.2.2.1
        have hX57 : X5 ≠ B := by have := hX5.out; omega
        have hs7 := (hset.out.block X5 (lt_of_blk hs6.out) (by simpa using hX57)).trans hs6.out
        have hk7 := hI6.out.2.2.2.fresh hset.out (fun b hb => .inr (by simp at hb; subst hb; exact Nat.le_of_eq hB.out))
        have hO7 := (hOi.out.keeps hkr6.out).keepS hset.out (fun b hb e => by simp at hb; subst hb; obtain ⟨cs, hc⟩ := (hOi.out.keeps hkr6.out).tag _ e; exact tag_ne hc hI6.out.2.1 (by decide) rfl)
        have hI7 : RsI O1 w (w6.setCell ⟨B, 1, none⟩ (.int .i64 (s9 + 1))) B { TK with s := s9 + 1 } x0 (s9 + 1) (x2, x3, x4) (x5, x6, x7) := ⟨hR7s, hsb.out, hZ7, hk7⟩
        have hidb := heap_alloc_new (w6.setCell ⟨B, 1, none⟩ (.int .i64 (s9 + 1))) (.cells #[.int .i64 x0, .int .i64 (s9 + 1)] tId)
        have hkid := (Keeps.refl [] (w6.setCell ⟨B, 1, none⟩ (.int .i64 (s9 + 1)))).alloc (.cells #[.int .i64 x0, .int .i64 (s9 + 1)] tId)
        have hI8 := hI7.keeps hkid
        have hs8 := (hkid.block _ (lt_of_blk hs7) (by simp)).trans hs7
        have hO8 := hO7.keeps hkid
        generalize ((w6.setCell ⟨B, 1, none⟩ (.int .i64 (s9 + 1))).alloc (.cells #[.int .i64 x0, .int .i64 (s9 + 1)] tId)) = W8 at *
        obtain ⟨XI, hXI⟩ : ∃ m, w6.heap.size = m := ⟨_, rfl⟩
        rw [show (w6.setCell ⟨B, 1, none⟩ (.int .i64 (s9 + 1))).heap.size = w6.heap.size by simp, hXI] at hidb
        rw [hXI]
        have hXIB : XI ≠ B := by have := lt_of_blk hI6.out.2.1; omega
        replace hI8 := Lib.hid hI8
        replace hs8 := Lib.hid hs8
        replace hO8 := Lib.hid hO8
        replace hidb := Lib.hid hidb
        clear hR7 hR7s hZ7 hs7 hk7 hO7 hI7 hkid hXI hset hsb hs6 hI6 hkr6 z0 z1 z2 z3 zf zl
        obtain ⟨z0, z1, z2, z3, zf, zl⟩ := cl4 hI8.out.2.1
        obtain ⟨n0, n1, n2, nf, nl⟩ := cl3 hs8.out
        obtain ⟨m0, m1, mf, ml⟩ := cl2 hidb.out
        obtain ⟨XA, hXA, hXAb, hXAl, hXAr⟩ := hI8.out.1.ac
        have hrw8 : Rw5 (B :: (B + 1) :: O1) W8 XA TK.act := ⟨hXAl, hXAr⟩
        simp only [slv] at hXA z2 z3
        have hXl3 : x3 = XA.length := by
          obtain ⟨_, _, e, _, _⟩ := hXA.form
          simp only [Value.slice.injEq] at e
          exact e.2.1
        have hXAm : XA.length ≤ 10000 := by rw [hXAl]; exact hAl
        replace hXl3 := Lib.hid hXl3
        replace hXAm := Lib.hid hXAm
        replace hXA := Lib.hid hXA
        replace hrw8 := Lib.hid hrw8
        clear hXAb hXAl hXAr hs65
        have hOlt : Hid (∀ b ∈ (B :: (B + 1) :: O1), b < W8.heap.size) := Lib.hid (fun b hb => by
          simp only [List.mem_cons] at hb
          rcases hb with e | e | e
          · have := lt_of_blk hI8.out.2.1; omega
          · have := lt_of_blk hI8.out.2.2.1; omega
          · rw [← hO1e.out, List.mem_append] at e
            rcases e with e | e
            · exact hO8.out.lt b (by simpa using e)
            · have h1 := hO.out b e; have h2 := hB.out; have h3 := lt_of_blk hI8.out.2.1; omega)
        refine Free.wp_region_chain (fun i => i == 0 || i == 3 || i == 6 || i == 7 || i == 8 || i == 10) (fun i => true) (fun j b => ((j = 3 ∨ j = 8) ∧ W8.heap.size ≤ b) ∨ (j = 10 ∧ b = B)) (by kernel_rfl) (by kernel_rfl) (by kernel_rfl) ?_
        refine Free.cw_loud rfl rfl (fun K hK => ?_)
        go_wp2
        refine hK _ _ rfl (Free.KeepsP.alloc _ _ _) ?_
        clear hK K
        (repeat (first | (apply Free.cw_pure rfl rfl; (intro w'; go_simp <;> exact rfl); go_frame) | (apply Free.cw_steady rfl rfl rfl; (intro w' hS; have q0 := Free.sx_cell hS z2 (fun j hp hT => Or.elim hT (fun h => by have := lt_of_cell z2; have := h.2; omega) (fun h => by obtain ⟨rfl, _⟩ := h; exact absurd hp (by decide +kernel))); have q1 := Free.sx_cell hS n0 (fun j hp hT => Or.elim hT (fun h => by have := lt_of_cell n0; have := h.2; omega) (fun h => by omega)); have q2 := Free.sx_cell hS n1 (fun j hp hT => Or.elim hT (fun h => by have := lt_of_cell n1; have := h.2; omega) (fun h => by omega)); have q3 := Free.sx_cell hS n2 (fun j hp hT => Or.elim hT (fun h => by have := lt_of_cell n2; have := h.2; omega) (fun h => by omega)); have q4 := Free.sx_cell hS m0 (fun j hp hT => Or.elim hT (fun h => by have := lt_of_cell m0; have := h.2; omega) (fun h => by omega)); have q5 := Free.sx_cell hS m1 (fun j hp hT => Or.elim hT (fun h => by have := lt_of_cell m1; have := h.2; omega) (fun h => by omega)); go_simp <;> exact rfl); go_frame) | (refine Free.cw_skip rfl ?_; go_frame)))
        refine Free.cw_loud rfl rfl (fun K hK => ?_)
        have hOE := Sh.O.fresh shRf W8.drew W8.heap.size tR (Nat.le_refl _)
        have hkE : Keeps [] W8 (W8.drew.alloc (.cells #[] tR)) := (Keeps.refl [] W8).drew.alloc _
        refine Sh.wp_app shRf W8.heap.size infoRf rfl Tryz.underlying27 (.slice (some ⟨W8.heap.size, 0, none⟩) 0 0) (.slice x2 x3 x4) [] XA _ _ rfl rfl rfl hOE (hXA.out.keeps hkE) (by have := hXAm.out; simp only [List.length_nil]; omega) (by simp) ?_
        intro v3 w3 hO3 hG3
        rw [List.nil_append] at hO3
        have hk3 : Keeps [] W8 w3 := hkE.fresh hG3.keepsO (fun b hb => by simp [Value.ownBlock] at hb; subst hb; exact .inr (Nat.le_refl _))
        refine hK _ _ rfl (Free.KeepsP.of hG3.keepsO (fun b hb => by simp [Value.ownBlock] at hb; subst hb; exact .inl ⟨.inl rfl, Nat.le_refl _⟩)) ?_
        clear hK K
        replace hO3 := Lib.hid hO3
        replace hk3 := Lib.hid hk3
        clear hOE hkE hG3
        (repeat (first | (apply Free.cw_pure rfl rfl; (intro w'; go_simp <;> exact rfl); go_frame) | (apply Free.cw_steady rfl rfl rfl; (intro w' hS; have q0 := Free.sx_cell hS z2 (fun j hp hT => Or.elim hT (fun h => by have := lt_of_cell z2; have := h.2; omega) (fun h => by obtain ⟨rfl, _⟩ := h; exact absurd hp (by decide +kernel))); have q1 := Free.sx_cell hS n0 (fun j hp hT => Or.elim hT (fun h => by have := lt_of_cell n0; have := h.2; omega) (fun h => by omega)); have q2 := Free.sx_cell hS n1 (fun j hp hT => Or.elim hT (fun h => by have := lt_of_cell n1; have := h.2; omega) (fun h => by omega)); have q3 := Free.sx_cell hS n2 (fun j hp hT => Or.elim hT (fun h => by have := lt_of_cell n2; have := h.2; omega) (fun h => by omega)); have q4 := Free.sx_cell hS m0 (fun j hp hT => Or.elim hT (fun h => by have := lt_of_cell m0; have := h.2; omega) (fun h => by omega)); have q5 := Free.sx_cell hS m1 (fun j hp hT => Or.elim hT (fun h => by have := lt_of_cell m1; have := h.2; omega) (fun h => by omega)); go_simp <;> exact rfl); go_frame) | (refine Free.cw_skip rfl ?_; go_frame)))
        refine Free.cw_loud rfl rfl (fun K hK => ?_)
        go_wp2_with fail
        refine (newR2_c w3 x0 (s9 + 1) (y0, y1, 0)).mono ?_
        rintro e w4 ⟨vo, vn, rfl, hOo, hOa, hk4⟩
        refine hK _ _ rfl (Free.KeepsP.of hk4 (by simp)) ?_
        clear hK K
        have hNP : NewP W8.heap.size x0 (s9 + 1) (y0, y1, 0) w4 (rf0 x0 (s9 + 1) (y0, y1, 0) vo vn) := ⟨vo, vn, rfl, hOo.lowB hk3.out.size, hOa.lowB hk3.out.size⟩
        obtain ⟨yN, hyN⟩ : ∃ y, rf0 x0 (s9 + 1) (y0, y1, 0) vo vn = y := ⟨_, rfl⟩
        rw [hyN] at hNP ⊢
        have hO4 := Lib.hid (hO3.out.keeps hk4)
        replace hk4 := Lib.hid (hk3.out.trans hk4)
        replace hNP := Lib.hid hNP
        clear hOo hOa hyN hO3 hk3
        obtain ⟨a0, a1, a2, a3, a4, a5, ⟨a6, a7, a8⟩, ⟨a9, a10, a11⟩, a12, ⟨a13, a14, a15⟩, a16, ⟨a17, a18, a19⟩⟩ := yN
        simp only [rfV, slv]
        refine Free.cw_loud rfl rfl (fun K hK => ?_)
        go_wp2
        refine hK _ _ rfl (Free.KeepsP.alloc _ _ _) ?_
        clear hK K
        refine Free.cw_loud rfl rfl (fun K hK => ?_)
        have hkE : Keeps [] w4 (w4.alloc (.cells #[.int .i64 a0, .int .i64 a1, .int .i64 a2, .int .u64 a3, .int .i64 a4, .int .i64 a5, .slice a6 a7 a8, .slice a9 a10 a11, .int .i64 a12, .slice a13 a14 a15, .bool a16, .slice a17 a18 a19] tR)) := (Keeps.refl _ _).alloc _
        have hmade := (Sh.O.one shRf w4 ⟨a0, a1, a2, a3, a4, a5, (a6, a7, a8), (a9, a10, a11), a12, (a13, a14, a15), a16, (a17, a18, a19)⟩ #[.int .i64 a0, .int .i64 a1, .int .i64 a2, .int .u64 a3, .int .i64 a4, .int .i64 a5, .slice a6 a7 a8, .slice a9 a10 a11, .int .i64 a12, .slice a13 a14 a15, .bool a16, .slice a17 a18 a19] tR 0 rfl (by omega))
        have hO5 := hO4.out.keeps hkE
        have hNP5 := hNP.out.keepD (D := []) (by simp) hkE
        have hk5 := hk4.out.trans hkE
        obtain ⟨X4, hX4⟩ : ∃ m, w4.heap.size = m := ⟨_, rfl⟩
        rw [hX4] at hmade ⊢
        generalize (w4.alloc (.cells #[.int .i64 a0, .int .i64 a1, .int .i64 a2, .int .u64 a3, .int .i64 a4, .int .i64 a5, .slice a6 a7 a8, .slice a9 a10 a11, .int .i64 a12, .slice a13 a14 a15, .bool a16, .slice a17 a18 a19] tR)) = W5 at *
        have hBE : W8.heap.size ≤ W5.heap.size := hk5.size
        refine Sh.wp_app shRf W8.heap.size infoRf rfl Tryz.underlying27 v3 (.slice (some ⟨X4, 0, none⟩) 1 1) XA [⟨a0, a1, a2, a3, a4, a5, (a6, a7, a8), (a9, a10, a11), a12, (a13, a14, a15), a16, (a17, a18, a19)⟩] _ _ rfl rfl rfl hO5 hmade.r (by have := hXAm.out; simp only [List.length_singleton]; omega) hBE ?_
        intro v5 w6 hO6 hG6
        obtain ⟨x8, x10, rfl⟩ := hO6.form
        refine hK _ _ rfl (Free.KeepsP.of hG6.keepsO (fun b hb => .inl ⟨.inr rfl, hO5.ge b (by simpa using hb)⟩)) ?_
        clear hK K
        have hNP6 := hNP5.keepD (fun b hb => by obtain ⟨cs, hc⟩ := hO5.tag b (by simpa using hb); exact ⟨cs, _, hc⟩) hG6.keepsO
        have hk6 := hk5.fresh hG6.keepsO (fun b hb => .inr (hO5.ge b (by simpa using hb)))
        clear hG6 hO5 hNP5 hk5 hmade hkE hX4 hBE hO4 hk4 hNP
        have hI9 := hI8.out.keeps hk6
        have hs9 := (hk6.block _ (lt_of_blk hs8.out) (by simp)).trans hs8.out
        have hid9 := (hk6.block _ (lt_of_blk hidb.out) (by simp)).trans hidb.out
        have hOd9 := hO8.out.keeps hk6
        have hrw9 := (hrw8.out.keeps hk6).snoc hNP6.r.1 (fun b hb => ⟨(hNP6.r.2 b hb).2, fun hm => by have := (hNP6.r.2 b hb).1; have := hOlt.out b hm; omega⟩)
        have hset : Keeps [B] w6 (w6.setCell ⟨B, 2, none⟩ (.slice x8 (XA ++ [(⟨a0, a1, a2, a3, a4, a5, (a6, a7, a8), (a9, a10, a11), a12, (a13, a14, a15), a16, (a17, a18, a19)⟩ : RfV)]).length x10)) := (Keeps.refl [B] w6).setCell (.inr (by simp)) _
        have hsb := setCs hI9.2.1 2 (.slice x8 (XA ++ [(⟨a0, a1, a2, a3, a4, a5, (a6, a7, a8), (a9, a10, a11), a12, (a13, a14, a15), a16, (a17, a18, a19)⟩ : RfV)]).length x10)
        have hDB : ∀ b ∈ [B], b ∈ (B :: (B + 1) :: O1) ∧ ∀ (cs : Array Value) (f : Nat × Nat), w6.heap[b]? ≠ some (Obj.cells cs tC f) ∧ w6.heap[b]? ≠ some (Obj.cells cs tN f) ∧ w6.heap[b]? ≠ some (Obj.cells cs tI f) := fun b hb => by
          simp at hb; subst hb
          exact ⟨by simp, fun cs f => ⟨fun e => tag_ne hI9.2.1 e (by decide) rfl, fun e => tag_ne hI9.2.1 e (by decide) rfl, fun e => tag_ne hI9.2.1 e (by decide) rfl⟩⟩
        have hRo := hI9.1.keepO hset hDB
        have hrwo := hrw9.keepO hset (fun b hb => ⟨(hDB b hb).1, fun cs f => ((hDB b hb).2 cs f).2.2⟩)
        have hO10 := hO6.keepS hset (fun b hb e => by simp at hb; subst hb; obtain ⟨cs, hc⟩ := hO6.tag _ e; exact tag_ne hc hI9.2.1 (by decide) rfl)
        have hRr := hRo.rows (va := (x8, (XA ++ [(⟨a0, a1, a2, a3, a4, a5, (a6, a7, a8), (a9, a10, a11), a12, (a13, a14, a15), a16, (a17, a18, a19)⟩ : RfV)]).length, x10)) hO10.r (fun b hb => ⟨hO10.lt b hb, fun hm => by have := hO10.ge b hb; have := hOlt.out b hm; omega⟩) hrwo
        have hZ10 := (hset.block (B + 1) (lt_of_blk hI9.2.2.1) (by simp)).trans hI9.2.2.1
        have hk10 := hI9.2.2.2.fresh hset (fun b hb => .inr (by simp at hb; subst hb; exact Nat.le_of_eq hB.out))
        have hid10 := (hset.block XI (lt_of_blk hid9) (by simpa using hXIB)).trans hid9
        have hOd10 := hOd9.keepS hset (fun b hb e => by simp at hb; subst hb; obtain ⟨cs, hc⟩ := hOd9.tag _ e; exact tag_ne hc hI9.2.1 (by decide) rfl)
        obtain ⟨c0, c1, c2, c3, cf, cl⟩ := cl4 hI9.2.1
        have hRN : RtR (B :: (B + 1) :: O1) (w6.setCell ⟨B, 2, none⟩ (.slice x8 (XA ++ [(⟨a0, a1, a2, a3, a4, a5, (a6, a7, a8), (a9, a10, a11), a12, (a13, a14, a15), a16, (a17, a18, a19)⟩ : RfV)]).length x10)) ⟨x0, s9 + 1, (x8, (XA ++ [(⟨a0, a1, a2, a3, a4, a5, (a6, a7, a8), (a9, a10, a11), a12, (a13, a14, a15), a16, (a17, a18, a19)⟩ : RfV)]).length, x10), (x5, x6, x7)⟩ (T.start (S.take (k + 1))) := by rw [hst2.out]; exact hRr.eqM hme.out
        have hI10 : RsI O1 w (w6.setCell ⟨B, 2, none⟩ (.slice x8 (XA ++ [(⟨a0, a1, a2, a3, a4, a5, (a6, a7, a8), (a9, a10, a11), a12, (a13, a14, a15), a16, (a17, a18, a19)⟩ : RfV)]).length x10)) B (T.start (S.take (k + 1))) x0 (s9 + 1) (x8, (XA ++ [(⟨a0, a1, a2, a3, a4, a5, (a6, a7, a8), (a9, a10, a11), a12, (a13, a14, a15), a16, (a17, a18, a19)⟩ : RfV)]).length, x10) (x5, x6, x7) := ⟨hRN, hsb, hZ10, hk10⟩
        replace hI10 := Lib.hid hI10
        replace hid10 := Lib.hid hid10
        replace hOd10 := Lib.hid hOd10
        replace hset := Lib.hid hset
        clear hRN hRr hRo hrwo hO10 hZ10 hk10 hDB hsb hrw9 hOd9 hid9 hs9 hI9 hk6 hNP6 hO6 z0 z1 z2 z3 zf zl n0 n1 n2 nf nl m0 m1 mf ml
        obtain ⟨NA, hNA⟩ : ∃ m, (XA ++ [(⟨a0, a1, a2, a3, a4, a5, (a6, a7, a8), (a9, a10, a11), a12, (a13, a14, a15), a16, (a17, a18, a19)⟩ : RfV)]).length = m := ⟨_, rfl⟩
        rw [hNA] at hI10 hid10 hOd10 hset ⊢
        replace hNA := Lib.hid hNA
        (repeat (apply Free.cw_pure rfl rfl; (intro w'; go_simp <;> exact rfl); go_frame))
        refine Free.cw_loud rfl rfl (fun K hK => ?_)
        go_wp2
        refine hK _ _ rfl (Free.KeepsP.of hset.out (fun b hb => .inr ⟨trivial, by simpa using hb⟩)) ?_
        clear hK K c0 c1 c2 c3 cf cl hset
        generalize (w6.setCell ⟨B, 2, none⟩ (.slice x8 NA x10)) = W10 at *
        refine Free.cw_nil ?_
        obtain ⟨m0, m1, mf, ml⟩ := cl2 hid10.out
        have hmade := Lib.hid (Sh.R.made shId W10 [(x0, s9 + 1)] #[.int .i64 x0, .int .i64 (s9 + 1)] tId rfl (by simp [maxLen]) 1 rfl)
        have hkr6 := (Keeps.refl [] W10).alloc (.cells #[.int .i64 x0, .int .i64 (s9 + 1)] tId)
        have hO1 := Lib.hid (hOd10.out.keeps hkr6)
        have hI11 := Lib.hid (hI10.out.keeps hkr6)
        clear hkr6 hI10 hOd10
        have hsz : B ≤ (W10.alloc (.cells #[.int .i64 x0, .int .i64 (s9 + 1)] tId)).heap.size := by have := lt_of_blk hI11.out.2.1; omega
        go_wp2_with (first
          | (at_builtin; (refine Sh.wpl_app shId B infoId rfl Tryz.underlying47 (.slice oa NN oc) (.slice (some ⟨W10.heap.size, 0, none⟩) 1 1) (T.startIds (S.take k)) [(x0, s9 + 1)] rfl _ _ rfl rfl rfl ?hA ?hB ?hC ?hD ?_); (case hA => exact hO1.out); (case hB => exact hmade.out); (case hC => rw [hNN.out]; simp only [List.length_singleton]; omega); (case hD => exact hsz); intro v7 w7 hO7 hG7)
          | fail)
        obtain ⟨q1, q2, q3, q4⟩ := hI11.out
        have hDo : ∀ b ∈ (Value.slice oa NN oc).ownBlock.toList, b ∈ O1 ∧ ∃ cs, (W10.alloc (.cells #[.int .i64 x0, .int .i64 (s9 + 1)] tId)).heap[b]? = some (.cells cs tId (0, 0)) := fun b hb => ⟨by rw [← hO1e.out]; exact List.mem_append_left _ hb, hO1.out.tag b (by simpa using hb)⟩
        have r1 := q1.sub (O' := B :: (B + 1) :: (v7.ownBlock.toList ++ O1)) (fun b hb hl => by
          simp only [List.mem_cons, List.mem_append] at hb ⊢
          rcases hb with e | e | e | e
          · exact .inl e
          · exact .inr (.inl e)
          · rcases hG7.own with e2 | ⟨k2, e2, hk2⟩
            · rw [e2] at e; exact .inr (.inr (hDo b e).1)
            · rw [e2] at e; simp at e; subst e; exact absurd hl (Nat.not_lt.2 hk2)
          · exact .inr (.inr e))
        have r2 := r1.keepO hG7.keepsO (fun b hb => by
          obtain ⟨h1, cs, h2⟩ := hDo b hb
          exact ⟨by simp [h1], fun cs' f => ⟨fun e => tag_ne h2 e (by decide) rfl, fun e => tag_ne h2 e (by decide) rfl, fun e => tag_ne h2 e (by decide) rfl⟩⟩)
        have r3 := r2.sub (O' := B :: (B + 1) :: (v7.ownBlock.toList ++ O)) (fun b hb _ => by
          simp only [List.mem_cons, List.mem_append] at hb ⊢
          rcases hb with e | e | e | e
          · exact .inl e
          · exact .inr (.inl e)
          · exact .inr (.inr (.inl e))
          · exact .inr (.inr (.inr (by rw [← hO1e.out]; exact List.mem_append_right _ e))))
        have hnB : ∀ b, (∃ cs e f, e ≠ tId ∧ (W10.alloc (.cells #[.int .i64 x0, .int .i64 (s9 + 1)] tId)).heap[b]? = some (Obj.cells cs e f)) → w7.heap[b]? = (W10.alloc (.cells #[.int .i64 x0, .int .i64 (s9 + 1)] tId)).heap[b]? := fun b ⟨cs, e, f, he, hc⟩ => hG7.keepsO.block b (lt_of_blk hc) (fun hm => by
          obtain ⟨_, cs', h2⟩ := hDo b hm
          exact tag_ne h2 hc (fun e3 => he e3.symm) rfl)
        have h2' := (hnB B ⟨_, tRc, _, by decide, q2⟩).trans q2
        have h3' := (hnB (B + 1) ⟨_, tRc, _, by decide, q3⟩).trans q3
        have h4' := q4.fresh hG7.keepsO (fun b hb => .inr (by have := hO1.out.ge b (by simpa using hb); have := hB.out; omega))
        exact ⟨⟨k + 1, s9 + 1, (x8, NA, x10), rfl, by omega, Lib.hid (by rw [hsi2.out]; exact hO7), Lib.hid ⟨r3, h2', h3', h4'⟩⟩, by simp [intOf]; omega⟩
    · have hlt2 : ¬ ((k : Int) < N) := by omega
      have hlt3 : decide ((k : Int) < (N : Int)) = false := by simp; omega
      have hkN : S.take k = S := by rw [List.take_of_length_le (by rw [← hXl.out]; omega)]
      rw [hkN] at hOi hI
      replace hkN := Lib.hid hkN
      obtain ⟨z0, z1, z2, z3, zf, zl⟩ := cl4 hI.out.2.1
      obtain ⟨g1, g2⟩ := sc4 (.int .i64 x0) (.int .i64 s9) (.slice x2 x3 x4) (.slice x5 x6 x7) hI.out.2.2.1
      obtain ⟨u0, u1, u2, u3, uf, ul⟩ := cl4 hI.out.2.2.1
      have hRf := hI.out.1.keepO g2 (fun b hb => by
        simp at hb; subst hb
        exact ⟨by simp, fun cs f => ⟨fun e => tag_ne hI.out.2.2.1 e (by decide) rfl, fun e => tag_ne hI.out.2.2.1 e (by decide) rfl, fun e => tag_ne hI.out.2.2.1 e (by decide) rfl⟩⟩)
      have hfin := hRf.sub (O' := O) (fun b hb _ => by rw [← hO1e.out]; simp [hb])
      have hOf := hOi.out.keepS g2 (fun b hb e => by simp at hb; subst hb; obtain ⟨cs, hc⟩ := hOi.out.tag _ e; exact tag_ne hc hI.out.2.2.1 (by decide) rfl)
      have hkf := hI.out.2.2.2.fresh g2 (fun b hb => .inr (by simp at hb; subst hb; have := hB.out; omega))
      replace g1 := Lib.hid g1
      replace hfin := Lib.hid hfin
      replace hOf := Lib.hid hOf
      replace hkf := Lib.hid hkf
      clear g2 hRf
      go_wp2
      refine bodyPost_ret (results_rt2 rfl _ _ _ _ _ _ _ _ _ rfl g1.out) rfl ?_
      exact ⟨⟨x0, s9, (x2, x3, x4), (x5, x6, x7)⟩, _, rfl, hfin.out, by rw [hB.out]; exact hOf.out, hkf.out⟩
end Go.Proofs.YtpobepninifenaaGreat

namespace Go.Proofs.YtpobepninifenaaGreat
open Go Go.RowKit

def RCertPost (w : World) (t : Tr) (e : Ending) (w' : World) : Prop :=
  ∃ y : CtV, e = .returned (ctV y) ∧ CtO w' y (certOf t) ∧ (∀ b, (slv y.va).ownBlock = some b → w.heap.size ≤ b ∧ b < w'.heap.size) ∧ Keeps [] w w'
set_option maxRecDepth 100000 in
set_option maxHeartbeats 8000000 in
theorem rcert_c (w : World) (x : RfV) (t : Tr) (h : RfR w x t) (hi : t.Inv) (hl : t.qs.length ≤ 1000) (hrf : t.rf = true → t.state = 4) (hs : t.state = 2) :
    Calls Tryz.prog 71 #[rfV x] w (RCertPost w t) := by
  have hsc := fun (W : World) (hk : Keeps [] w W) => sortedO_c W x t (h.keeps hk) hi.rk hl
  have hcc := fun (W : World) (hk : Keeps [] w W) => claimsO_c W x t (h.keeps hk) hi hl hrf
  have hcl : t.clms = t.clm := by unfold Tr.clms; rw [if_pos (by unfold Tr.shown; rw [hs]; rfl)]
  rw [hcl] at hcc
  have h1 := h.im
  have h2 := h.is
  have h3 := h.s0
  have h4 := h.s1
  have h5 := h.s2
  have hqb := srtOf_len hi
  have hcb := clm_len' hi
  obtain ⟨x0, x1, x2, x3, x4, x5, ⟨x6, x7, x8⟩, ⟨x9, x10, x11⟩, x12, ⟨x13, x14, x15⟩, x16, ⟨x17, x18, x19⟩⟩ := x
  simp only [slv, rfV] at hsc hcc h1 h2 h3 h4 h5 ⊢
  obtain ⟨hb1, hb2, hkW, hzW⟩ := blks2 w (.cells #[.int .i64 x0, .int .i64 x1, .int .i64 x2, .int .u64 x3, .int .i64 x4, .int .i64 x5, .slice x6 x7 x8, .slice x9 x10 x11, .int .i64 x12, .slice x13 x14 x15, .bool x16, .slice x17 x18 x19] tR) (.cells #[.int .i64 0, .int .i64 0, .int .i64 0, .int .u64 0, .int .i64 0, .slice none 0 0, .slice none 0 0] tCt)
  replace hsc := Lib.hid hsc
  replace hcc := Lib.hid hcc
  replace hi := Lib.hid hi
  replace hcl := Lib.hid hcl
  replace h1 := Lib.hid h1
  replace h2 := Lib.hid h2
  replace h3 := Lib.hid h3
  replace h4 := Lib.hid h4
  replace h5 := Lib.hid h5
  replace hqb := Lib.hid hqb
  replace hcb := Lib.hid hcb
  replace hs := Lib.hid hs
  clear h hrf
  go_enter Tryz.func71, Tryz.ntmps71
  go_upto_region 1 with fail
  generalize ((w.alloc (.cells #[.int .i64 x0, .int .i64 x1, .int .i64 x2, .int .u64 x3, .int .i64 x4, .int .i64 x5, .slice x6 x7 x8, .slice x9 x10 x11, .int .i64 x12, .slice x13 x14 x15, .bool x16, .slice x17 x18 x19] tR)).alloc (.cells #[.int .i64 0, .int .i64 0, .int .i64 0, .int .u64 0, .int .i64 0, .slice none 0 0, .slice none 0 0] tCt)) = W at *
  obtain ⟨B, hB⟩ : ∃ B, w.heap.size = B := ⟨_, rfl⟩
  unfold RCertPost
  rw [hB] at hb1 hb2 hzW ⊢
  have hbX := hb1
  obtain ⟨z0, z1, z2, z3, z4, z5, z6, z7, z8, z9, z10, z11, zf, zl⟩ := cl12 hbX
  have hWB : B + 1 < W.heap.size := lt_of_blk hb2
  replace hb2 := Lib.hid hb2
  replace hkW := Lib.hid hkW
  replace hB := Lib.hid hB
  replace hzW := Lib.hid hzW
  clear hb1 hbX
  refine Free.wp_region_chain (fun i => i == 5 || i == 7 || i == 9) (fun i => true) (fun j b => j = 9 ∧ b = B + 1) (by kernel_rfl) (by kernel_rfl) (by kernel_rfl) ?_
  (repeat (first | (apply Free.cw_pure rfl rfl; (intro w'; go_simp <;> exact rfl); go_frame) | (apply Free.cw_steady rfl rfl rfl; (intro w' hS; have q0 := Free.sx_cell hS z0 (fun _ _ hT => by have := hT.2; omega); have q1 := Free.sx_cell hS z1 (fun _ _ hT => by have := hT.2; omega); have q2 := Free.sx_cell hS z2 (fun _ _ hT => by have := hT.2; omega); have q3 := Free.sx_cell hS z3 (fun _ _ hT => by have := hT.2; omega); have q4 := Free.sx_cell hS z4 (fun _ _ hT => by have := hT.2; omega); have q5 := Free.sx_cell hS z5 (fun _ _ hT => by have := hT.2; omega); have q6 := Free.sx_cell hS z6 (fun _ _ hT => by have := hT.2; omega); have q7 := Free.sx_cell hS z7 (fun _ _ hT => by have := hT.2; omega); have q8 := Free.sx_cell hS z8 (fun _ _ hT => by have := hT.2; omega); have q9 := Free.sx_cell hS z9 (fun _ _ hT => by have := hT.2; omega); have q10 := Free.sx_cell hS z10 (fun _ _ hT => by have := hT.2; omega); have q11 := Free.sx_cell hS z11 (fun _ _ hT => by have := hT.2; omega); go_simp <;> exact rfl); go_frame) | (refine Free.cw_skip rfl ?_; go_frame)))
  refine Free.cw_loud rfl rfl (fun K hK => ?_)
  go_wp2_with fail
  refine (hsc.out _ hkW.out.drew).mono ?_
  rintro e w1 ⟨v1, X1, rfl, hO1, hL1, hk1⟩
  refine hK _ _ rfl (Free.KeepsP.of hk1 (by simp)) ?_
  clear hK K hsc
  have hk1' := hkW.out.trans (((Keeps.refl [] W).drew).trans hk1)
  have hbZ1 := (((Keeps.refl [] W).drew.trans hk1).block _ (lt_of_blk hb2.out) (by simp)).trans hb2.out
  obtain ⟨a1, c1, rfl⟩ := hO1.form
  obtain ⟨N1, hN1⟩ : ∃ n, X1.length = n := ⟨_, rfl⟩
  rw [hN1] at hO1 ⊢
  replace hN1 := Lib.hid hN1
  replace hO1 := Lib.hid hO1
  replace hL1 := Lib.hid hL1
  replace hk1' := Lib.hid hk1'
  replace hbZ1 := Lib.hid hbZ1
  clear hk1
  (repeat (first | (apply Free.cw_pure rfl rfl; (intro w'; go_simp <;> exact rfl); go_frame) | (apply Free.cw_steady rfl rfl rfl; (intro w' hS; have q0 := Free.sx_cell hS z0 (fun _ _ hT => by have := hT.2; omega); have q1 := Free.sx_cell hS z1 (fun _ _ hT => by have := hT.2; omega); have q2 := Free.sx_cell hS z2 (fun _ _ hT => by have := hT.2; omega); have q3 := Free.sx_cell hS z3 (fun _ _ hT => by have := hT.2; omega); have q4 := Free.sx_cell hS z4 (fun _ _ hT => by have := hT.2; omega); have q5 := Free.sx_cell hS z5 (fun _ _ hT => by have := hT.2; omega); have q6 := Free.sx_cell hS z6 (fun _ _ hT => by have := hT.2; omega); have q7 := Free.sx_cell hS z7 (fun _ _ hT => by have := hT.2; omega); have q8 := Free.sx_cell hS z8 (fun _ _ hT => by have := hT.2; omega); have q9 := Free.sx_cell hS z9 (fun _ _ hT => by have := hT.2; omega); have q10 := Free.sx_cell hS z10 (fun _ _ hT => by have := hT.2; omega); have q11 := Free.sx_cell hS z11 (fun _ _ hT => by have := hT.2; omega); go_simp <;> exact rfl); go_frame) | (refine Free.cw_skip rfl ?_; go_frame)))
  refine Free.cw_loud rfl rfl (fun K hK => ?_)
  go_wp2_with fail
  refine (hcc.out _ hk1'.out).mono ?_
  rintro e w2 ⟨v2, rfl, hLC, hk2⟩
  refine hK _ _ rfl (Free.KeepsP.of hk2 (by simp)) ?_
  clear hK K hcc
  obtain ⟨a2, c2, rfl, _, _⟩ := hLC.lc.form
  obtain ⟨N2, hN2⟩ : ∃ n, t.clm.length = n := ⟨_, rfl⟩
  rw [hN2] at hLC ⊢
  have hO2 := hO1.out.keeps hk2
  have hL2 := hL1.out.ki hk2.ki0
  have hk2' := hk1'.out.trans hk2
  have hbZ2 := (hk2.block _ (lt_of_blk hbZ1.out) (by simp)).trans hbZ1.out
  replace hN2 := Lib.hid hN2
  replace hLC := Lib.hid hLC
  replace hO2 := Lib.hid hO2
  replace hL2 := Lib.hid hL2
  replace hk2' := Lib.hid hk2'
  clear hk2 hO1 hL1 hk1' hbZ1
  obtain ⟨n0, n1, n2, n3, n4, n5, n6, nf, nl⟩ := cl7 hbZ2
  obtain ⟨g1, g2⟩ := sc7 (.int .i64 x0) (.int .i64 x1) (.int .i64 x2) (.int .u64 x3) (.int .i64 x4) (.slice a1 N1 c1) (.slice a2 N2 c2) hbZ2
  replace hbZ2 := Lib.hid hbZ2
  replace g1 := Lib.hid g1
  replace g2 := Lib.hid g2
  (repeat (apply Free.cw_pure rfl rfl; (intro w'; go_simp <;> exact rfl); go_frame))
  refine Free.cw_loud rfl rfl (fun K hK => ?_)
  go_wp2
  refine hK _ _ rfl (Free.KeepsP.of g2.out (fun b hb => ⟨trivial, by simpa using hb⟩)) ?_
  clear hK K n0 n1 n2 n3 n4 n5 n6 nf nl
  refine Free.cw_nil ?_
  clear z0 z1 z2 z3 z4 z5 z6 z7 z8 z9 z10 z11 zf zl
  go_wp2
  refine bodyPost_ret (results_ct1 rfl _ _ _ _ _ _ _ _ _ _ _ _ rfl g1.out) rfl ?_
  have hkf := hk2'.out.fresh g2.out (fun b hb => .inr (by simp at hb; subst hb; have := hB.out; omega))
  have hnt : ∀ b ∈ [B + 1], ∀ (cs : Array Value) (e : TypeId) (f : Nat × Nat), e ≠ tCt → w2.heap[b]? ≠ some (Obj.cells cs e f) := fun b hb cs e f he e2 => by
    simp at hb; subst hb; rw [hbZ2.out] at e2; cases e2; exact he rfl
  have hOf := hO2.out.keepS g2.out (fun b hb e => by obtain ⟨cs, hc⟩ := hO2.out.tag _ e; exact hnt b hb cs _ _ (by decide) hc)
  have hLf := hL2.out.ki (g2.out.ki (fun b hb cs f => hnt b hb cs _ f (by decide)))
  have hCf : LCo _ (.slice a2 N2 c2) t.clm := LCo.keepS hLC.out g2.out (fun b hb cs f => ⟨hnt b hb cs _ f (by decide), hnt b hb cs _ f (by decide)⟩)
  refine ⟨⟨x0, x1, x2, x3, x4, (a1, N1, c1), (a2, N2, c2)⟩, rfl, ⟨h1.out, h2.out, h3.out, h4.out, h5.out, ⟨X1, hOf.r, hLf, fun b hb => by obtain ⟨cs, hc⟩ := hOf.tag b hb; exact ⟨cs, _, hc⟩⟩, hCf⟩, fun b hb => ⟨?_, hOf.lt b hb⟩, hkf⟩
  have := hOf.ge b hb
  have h6 : w.heap.size ≤ W.heap.size := by have := hB.out; omega
  have h7 : W.heap.size ≤ b := this
  have := hB.out
  omega
def WithPost (O : List Nat) (w : World) (T : Tc) (i : Nat) (u : Tr) (e : Ending) (w' : World) : Prop := ∃ x', e = .returned (rtV x') ∧ RtR O w' x' (T.setT i u) ∧ Keeps [] w w'
theorem Rw5.setAt {O : List Nat} {w : World} {X : List RfV} {A : List Tr} {y : RfV} {u : Tr} (h : Rw5 O w X A) (i : Nat) (hy : RfR w y u) (hb : ∀ b ∈ blks y, b < w.heap.size ∧ b ∉ O) : Rw5 O w (X.set i y) (A.set i u) := by
  obtain ⟨h1, h2⟩ := h
  refine ⟨by simp [h1], fun k a t ha ht => ?_⟩
  rw [List.getElem?_set] at ha ht
  split at ha
  · rename_i e
    rw [if_pos e] at ht
    split at ha
    · split at ht
      · cases ha; cases ht; exact ⟨hy, hb⟩
      · cases ht
    · cases ha
  · rename_i e
    rw [if_neg e] at ht
    exact h2 k a t ha ht
theorem _root_.Go.Proofs.YtpobepninifenaaGreat.Sh.O.setAt {α : Type} {s : Sh α} {w : World} {B : Nat} {e : TypeId} {g n c : Nat} {L : List α} {k : Nat} {x : α} (h : s.O w B e (.slice (some ⟨g, 0, none⟩) n c) (L.set k x)) (hk : k < L.length) (y : α) (j : Nat) (u : Value) (hy : s.cf y = (s.cf x).set j u) (hj : j < s.sz) (hu : u.oneCell' = true) :
    s.O (w.setCell ⟨g, k * s.sz + j, none⟩ u) B e (.slice (some ⟨g, 0, none⟩) n c) (L.set k y) := by
  have h1 := h.set (k := k) (by simpa using hk) y j u (by simpa using hy) hj hu
  rwa [List.set_set] at h1
theorem O_at0 {α : Type} {s : Sh α} {w : World} {B : Nat} {e : TypeId} {v : Value} {L : List α} (h : s.O w B e v L) (hL : 0 < L.length) : ∃ g c, v = .slice (some ⟨g, 0, none⟩) L.length c := by
  rcases h with ⟨h1, ⟨h2, h3⟩ | ⟨g', cap, cur, h2, hb, hg, h3, h4, h5, h6⟩⟩
  · omega
  · exact ⟨g', cap, h2⟩
theorem rf_set12 {w : World} {B g n c k : Nat} {L : List RfV} (h : shRf.O w B tR (.slice (some ⟨g, 0, none⟩) n c) L) (hk : k < L.length) (y : RfV) :
    shRf.O ((((((((((((w.setCell ⟨g, k * 12, none⟩ (.int .i64 y.im)).setCell ⟨g, k * 12 + 1, none⟩ (.int .i64 y.is)).setCell ⟨g, k * 12 + 2, none⟩ (.int .i64 y.s0)).setCell ⟨g, k * 12 + 3, none⟩ (.int .u64 y.s1)).setCell ⟨g, k * 12 + 4, none⟩ (.int .i64 y.s2)).setCell ⟨g, k * 12 + 5, none⟩ (.int .i64 y.st)).setCell ⟨g, k * 12 + 6, none⟩ (slv y.vo)).setCell ⟨g, k * 12 + 7, none⟩ (slv y.va)).setCell ⟨g, k * 12 + 8, none⟩ (.int .i64 y.told)).setCell ⟨g, k * 12 + 9, none⟩ (slv y.vg)).setCell ⟨g, k * 12 + 10, none⟩ (.bool y.rf)).setCell ⟨g, k * 12 + 11, none⟩ (slv y.vh)) B tR (.slice (some ⟨g, 0, none⟩) n c) (L.set k y) ∧ Keeps [g] w ((((((((((((w.setCell ⟨g, k * 12, none⟩ (.int .i64 y.im)).setCell ⟨g, k * 12 + 1, none⟩ (.int .i64 y.is)).setCell ⟨g, k * 12 + 2, none⟩ (.int .i64 y.s0)).setCell ⟨g, k * 12 + 3, none⟩ (.int .u64 y.s1)).setCell ⟨g, k * 12 + 4, none⟩ (.int .i64 y.s2)).setCell ⟨g, k * 12 + 5, none⟩ (.int .i64 y.st)).setCell ⟨g, k * 12 + 6, none⟩ (slv y.vo)).setCell ⟨g, k * 12 + 7, none⟩ (slv y.va)).setCell ⟨g, k * 12 + 8, none⟩ (.int .i64 y.told)).setCell ⟨g, k * 12 + 9, none⟩ (slv y.vg)).setCell ⟨g, k * 12 + 10, none⟩ (.bool y.rf)).setCell ⟨g, k * 12 + 11, none⟩ (slv y.vh)) := by
  obtain ⟨x, hx⟩ : ∃ x, L[k] = x := ⟨_, rfl⟩
  have h0 : shRf.O w B tR (.slice (some ⟨g, 0, none⟩) n c) (L.set k x) := by rw [← hx, List.set_getElem_self]; exact h
  have h1 := h0.setAt hk (⟨y.im, x.is, x.s0, x.s1, x.s2, x.st, x.vo, x.va, x.told, x.vg, x.rf, x.vh⟩ : RfV) 0 (.int .i64 y.im) rfl (by decide) rfl
  have h2 := h1.setAt hk (⟨y.im, y.is, x.s0, x.s1, x.s2, x.st, x.vo, x.va, x.told, x.vg, x.rf, x.vh⟩ : RfV) 1 (.int .i64 y.is) rfl (by decide) rfl
  have h3 := h2.setAt hk (⟨y.im, y.is, y.s0, x.s1, x.s2, x.st, x.vo, x.va, x.told, x.vg, x.rf, x.vh⟩ : RfV) 2 (.int .i64 y.s0) rfl (by decide) rfl
  have h4 := h3.setAt hk (⟨y.im, y.is, y.s0, y.s1, x.s2, x.st, x.vo, x.va, x.told, x.vg, x.rf, x.vh⟩ : RfV) 3 (.int .u64 y.s1) rfl (by decide) rfl
  have h5 := h4.setAt hk (⟨y.im, y.is, y.s0, y.s1, y.s2, x.st, x.vo, x.va, x.told, x.vg, x.rf, x.vh⟩ : RfV) 4 (.int .i64 y.s2) rfl (by decide) rfl
  have h6 := h5.setAt hk (⟨y.im, y.is, y.s0, y.s1, y.s2, y.st, x.vo, x.va, x.told, x.vg, x.rf, x.vh⟩ : RfV) 5 (.int .i64 y.st) rfl (by decide) rfl
  have h7 := h6.setAt hk (⟨y.im, y.is, y.s0, y.s1, y.s2, y.st, y.vo, x.va, x.told, x.vg, x.rf, x.vh⟩ : RfV) 6 (slv y.vo) rfl (by decide) rfl
  have h8 := h7.setAt hk (⟨y.im, y.is, y.s0, y.s1, y.s2, y.st, y.vo, y.va, x.told, x.vg, x.rf, x.vh⟩ : RfV) 7 (slv y.va) rfl (by decide) rfl
  have h9 := h8.setAt hk (⟨y.im, y.is, y.s0, y.s1, y.s2, y.st, y.vo, y.va, y.told, x.vg, x.rf, x.vh⟩ : RfV) 8 (.int .i64 y.told) rfl (by decide) rfl
  have h10 := h9.setAt hk (⟨y.im, y.is, y.s0, y.s1, y.s2, y.st, y.vo, y.va, y.told, y.vg, x.rf, x.vh⟩ : RfV) 9 (slv y.vg) rfl (by decide) rfl
  have h11 := h10.setAt hk (⟨y.im, y.is, y.s0, y.s1, y.s2, y.st, y.vo, y.va, y.told, y.vg, y.rf, x.vh⟩ : RfV) 10 (.bool y.rf) rfl (by decide) rfl
  have h12 := h11.setAt hk (y : RfV) 11 (slv y.vh) rfl (by decide) rfl
  refine ⟨h12, ?_⟩
  refine ((((((((((((Keeps.refl _ w).setCell ?_ _).setCell ?_ _).setCell ?_ _).setCell ?_ _).setCell ?_ _).setCell ?_ _).setCell ?_ _).setCell ?_ _).setCell ?_ _).setCell ?_ _).setCell ?_ _).setCell ?_ _ <;> exact .inr (by simp)
set_option maxRecDepth 100000 in
set_option maxHeartbeats 8000000 in
theorem rwith_c (O : List Nat) (w : World) (x : RtV) (T : Tc) (i : Nat) (y : RfV) (u : Tr) (h : RtR O w x T) (hO : ∀ b ∈ O, b < w.heap.size) (hi : i < T.act.length) (hal : T.act.length ≤ 10000) (hy : RfR w y u) (hyb : ∀ b ∈ blks y, b < w.heap.size ∧ b ∉ O) :
    Calls Tryz.prog 33 #[rtV x, .int .i64 i, rfV y] w (WithPost O w T i u) := by
  obtain ⟨XA, hXA, hXAb, hXAl, hXAr⟩ := h.ac
  have hrw : Rw5 O w XA T.act := ⟨hXAl, hXAr⟩
  obtain ⟨x0, x1, ⟨x2, x3, x4⟩, ⟨x5, x6, x7⟩⟩ := x
  obtain ⟨y0, y1, y2, y3, y4, y5, ⟨y6, y7, y8⟩, ⟨y9, y10, y11⟩, y12, ⟨y13, y14, y15⟩, y16, ⟨y17, y18, y19⟩⟩ := y
  simp only [slv] at hXA
  have hx3 : x3 = XA.length := by
    obtain ⟨_, _, e, _, _⟩ := hXA.form
    simp only [Value.slice.injEq] at e
    exact e.2.1
  have hi3 : i < XA.length := by rw [hXAl]; exact hi
  have hm3 : XA.length ≤ 10000 := by rw [hXAl]; exact hal
  obtain ⟨hb1, hb2, hb3, hkW, hzW⟩ := blks3 w (.cells #[.int .i64 x0, .int .i64 x1, .slice x2 x3 x4, .slice x5 x6 x7] tRc) (.cells #[.int .i64 y0, .int .i64 y1, .int .i64 y2, .int .u64 y3, .int .i64 y4, .int .i64 y5, .slice y6 y7 y8, .slice y9 y10 y11, .int .i64 y12, .slice y13 y14 y15, .bool y16, .slice y17 y18 y19] tR) (.cells #[.int .i64 0, .int .i64 0, .slice none 0 0, .slice none 0 0] tRc)
  replace h := Lib.hid h
  replace hO := Lib.hid hO
  replace hXA := Lib.hid hXA
  replace hrw := Lib.hid hrw
  replace hy := Lib.hid hy
  replace hyb := Lib.hid hyb
  replace hi3 := Lib.hid hi3
  replace hm3 := Lib.hid hm3
  replace hx3 := Lib.hid hx3
  clear hXAb hXAl hXAr hi hal
  simp only [rtV, rfV, slv]
  go_enter Tryz.func33, Tryz.ntmps33
  go_upto_region 1 with fail
  generalize (((w.alloc (.cells #[.int .i64 x0, .int .i64 x1, .slice x2 x3 x4, .slice x5 x6 x7] tRc)).alloc (.cells #[.int .i64 y0, .int .i64 y1, .int .i64 y2, .int .u64 y3, .int .i64 y4, .int .i64 y5, .slice y6 y7 y8, .slice y9 y10 y11, .int .i64 y12, .slice y13 y14 y15, .bool y16, .slice y17 y18 y19] tR)).alloc (.cells #[.int .i64 0, .int .i64 0, .slice none 0 0, .slice none 0 0] tRc)) = W at *
  obtain ⟨B, hB⟩ : ∃ B, w.heap.size = B := ⟨_, rfl⟩
  unfold WithPost
  rw [hB] at hb1 hb2 hb3 hzW ⊢
  have hk1 := (Keeps.refl [] W).alloc (.cells #[] tR)
  have hOn := Sh.O.fresh shRf W W.heap.size tR (Nat.le_refl _)
  have hkw := hkW.trans hk1
  have hX1 := hXA.out.keeps hkw
  replace hb1 := (hk1.block _ (lt_of_blk hb1) (by simp)).trans hb1
  replace hb2 := (hk1.block _ (lt_of_blk hb2) (by simp)).trans hb2
  replace hb3 := (hk1.block _ (lt_of_blk hb3) (by simp)).trans hb3
  have hWs : W.heap.size ≤ (W.alloc (.cells #[] tR)).heap.size := hk1.size
  obtain ⟨z0, z1, z2, z3, zf, zl⟩ := cl4 hb1
  replace hB := Lib.hid hB
  replace hzW := Lib.hid hzW
  replace hOn := Lib.hid hOn
  replace hkw := Lib.hid hkw
  replace hX1 := Lib.hid hX1
  replace hb1 := Lib.hid hb1
  replace hb2 := Lib.hid hb2
  replace hb3 := Lib.hid hb3
  clear hk1 hkW
  go_upto_region 2 with (at_builtin; (refine Sh.wpl_app shRf W.heap.size infoRf rfl Tryz.underlying27 (.slice (some ⟨W.heap.size, 0, none⟩) 0 0) (.slice x2 x3 x4) [] XA rfl _ _ rfl rfl rfl hOn.out hX1.out (by have := hm3.out; simp only [List.length_nil]; omega) hWs ?_); intro v5 w5 hO5 hG5; rw [List.nil_append] at hO5; obtain ⟨g5, c5, hv5⟩ := O_at0 hO5 (by have := hi3.out; omega); rw [← hx3.out] at hv5; subst hv5; have hk5 : Keeps [W.heap.size] _ w5 := hG5.keepsO; have hb5 := (hk5.block B (lt_of_blk hb1.out) (by simp; have := hzW.out; omega)).trans hb1.out; clear z0 z1 z2 z3 zf zl; obtain ⟨z0, z1, z2, z3, zf, zl⟩ := cl4 hb5)
  have hset : Keeps [B] w5 (w5.setCell ⟨B, 2, none⟩ (.slice (some ⟨g5, 0, none⟩) x3 c5)) := (Keeps.refl [B] w5).setCell (.inr (by simp)) _
  have hsb := setCs hb5 2 (.slice (some ⟨g5, 0, none⟩) x3 c5)
  have hBW : B < W.heap.size := by have := hzW.out; omega
  have hO6 := hO5.keepS hset (fun b hb e => by simp at hb; subst hb; have := hO5.ge _ e; omega)
  have hk5w := hkw.out.fresh hk5 (fun b hb => .inr (by simp at hb; subst hb; have := hB.out; omega))
  have hk6 := hk5w.fresh hset (fun b hb => .inr (by simp at hb; subst hb; have := hB.out; omega))
  have hb6 := (hset.block (B + 1) (Nat.lt_of_lt_of_le (lt_of_blk hb2.out) hk5.size) (by simp)).trans ((hk5.block (B + 1) (lt_of_blk hb2.out) (by simp; have := hzW.out; omega)).trans hb2.out)
  have hc6 := (hset.block (B + 1 + 1) (Nat.lt_of_lt_of_le (lt_of_blk hb3.out) hk5.size) (by simp; omega)).trans ((hk5.block (B + 1 + 1) (lt_of_blk hb3.out) (by simp; have := hzW.out; omega)).trans hb3.out)
  have hg5 : W.heap.size ≤ g5 := hO6.ge g5 rfl
  have hz5 := hzW.out
  obtain ⟨WS, hWS⟩ : ∃ n, W.heap.size = n := ⟨_, rfl⟩
  rw [hWS] at hg5 hO6 hz5 hBW
  replace hz5 := Lib.hid hz5
  have hi6 : i < x3 := by rw [hx3.out]; exact hi3.out
  replace hk6 := Lib.hid hk6
  replace hsb := Lib.hid hsb
  clear hk5w hO5 hG5 hk5 hb5 hset z0 z1 z2 z3 zf zl hOn hkw hX1 hb1 hb2 hb3
  generalize (w5.setCell ⟨B, 2, none⟩ (.slice (some ⟨g5, 0, none⟩) x3 c5)) = W6 at *
  obtain ⟨z0, z1, z2, z3, zf, zl⟩ := cl4 hsb.out
  obtain ⟨n0, n1, n2, n3, n4, n5, n6, n7, n8, n9, n10, n11, nf, nl⟩ := cl12 hb6
  obtain ⟨g', o', c', hv, he⟩ := hO6.r.elem hi3.out
  simp only [Value.slice.injEq, Option.some.injEq, Addr.mk.injEq] at hv
  obtain ⟨⟨rfl, rfl, -⟩, -, -⟩ := hv
  obtain ⟨csg, hcg⟩ := hO6.tag g5 rfl
  have gf : ∀ o, W6.frozen? ⟨g5, o, none⟩ = false := fun o => by simp [World.frozen?, hcg]
  have gl : g5 < W6.heap.size := lt_of_blk hcg
  obtain ⟨⟨v0, v1, v2, v3, v4, v5, ⟨v6, v7, v8⟩, ⟨v9, v10, v11⟩, v12, ⟨v13, v14, v15⟩, v16, ⟨v17, v18, v19⟩⟩, hv⟩ : ∃ v, XA[i]'hi3.out = v := ⟨_, rfl⟩
  rw [hv] at he
  have e0 := he 0 _ rfl
  have e1 := he 1 _ rfl
  have e2 := he 2 _ rfl
  have e3 := he 3 _ rfl
  have e4 := he 4 _ rfl
  have e5 := he 5 _ rfl
  have e6 := he 6 _ rfl
  have e7 := he 7 _ rfl
  have e8 := he 8 _ rfl
  have e9 := he 9 _ rfl
  have e10 := he 10 _ rfl
  have e11 := he 11 _ rfl
  simp only [shRf, RfV.cs, Nat.add_zero, Nat.zero_add] at e0 e1 e2 e3 e4 e5 e6 e7 e8 e9 e10 e11
  obtain ⟨hs1, hs2⟩ := rf_set12 hO6 hi3.out ⟨y0, y1, y2, y3, y4, y5, (y6, y7, y8), (y9, y10, y11), y12, (y13, y14, y15), y16, (y17, y18, y19)⟩
  simp only [slv] at hs1 hs2
  have hgB : g5 ≠ B := by omega
  have hgC : g5 ≠ B + 1 + 1 := by have := hz5.out; omega
  have hsbF := (hs2.block B (lt_of_blk hsb.out) (by simp; omega)).trans hsb.out
  have hc7 := (hs2.block (B + 1 + 1) (lt_of_blk hc6) (by simp; omega)).trans hc6
  have hi64 : (i : Int) < 9223372036854775807 := by have := hi3.out; have := hm3.out; omega
  have hi65 : (i : Int) < x3 := by omega
  replace hs1 := Lib.hid hs1
  replace hs2 := Lib.hid hs2
  replace hsbF := Lib.hid hsbF
  replace hc7 := Lib.hid hc7
  replace hv := Lib.hid hv
  clear he hcg hb6 hc6 hO6
  go_upto_region 3 with fail
  clear e0 e1 e2 e3 e4 e5 e6 e7 e8 e9 e10 e11 z0 z1 z2 z3 zf zl n0 n1 n2 n3 n4 n5 n6 n7 n8 n9 n10 n11 nf nl
  generalize ((((((((((((W6.setCell ⟨g5, i * 12, none⟩ (.int .i64 y0)).setCell ⟨g5, i * 12 + 1, none⟩ (.int .i64 y1)).setCell ⟨g5, i * 12 + 2, none⟩ (.int .i64 y2)).setCell ⟨g5, i * 12 + 3, none⟩ (.int .u64 y3)).setCell ⟨g5, i * 12 + 4, none⟩ (.int .i64 y4)).setCell ⟨g5, i * 12 + 5, none⟩ (.int .i64 y5)).setCell ⟨g5, i * 12 + 6, none⟩ (.slice y6 y7 y8)).setCell ⟨g5, i * 12 + 7, none⟩ (.slice y9 y10 y11)).setCell ⟨g5, i * 12 + 8, none⟩ (.int .i64 y12)).setCell ⟨g5, i * 12 + 9, none⟩ (.slice y13 y14 y15)).setCell ⟨g5, i * 12 + 10, none⟩ (.bool y16)).setCell ⟨g5, i * 12 + 11, none⟩ (.slice y17 y18 y19)) = W7 at *
  obtain ⟨z0, z1, z2, z3, zf, zl⟩ := cl4 hsbF.out
  obtain ⟨n0, n1, n2, n3, nf, nl⟩ := cl4 hc7.out
  obtain ⟨g1, g2⟩ := sc4 (.int .i64 x0) (.int .i64 x1) (.slice (some ⟨g5, 0, none⟩) x3 c5) (.slice x5 x6 x7) hc7.out
  replace g1 := Lib.hid g1
  replace g2 := Lib.hid g2
  go_wp2
  refine bodyPost_ret (results_rt1 rfl _ _ _ _ _ _ _ _ _ rfl g1.out) rfl ?_
  have hkf := (hk6.out.fresh hs2.out (fun b hb => .inr (by simp at hb; subst hb; have := hB.out; have := hz5.out; omega))).fresh g2.out (fun b hb => .inr (by simp at hb; subst hb; have := hB.out; omega))
  have hOf := hs1.out.keepS g2.out (fun b hb e => by simp at hb; subst hb; simp [Value.ownBlock] at e; omega)
  have hWSw : w.heap.size ≤ WS := by have := hz5.out; have := hB.out; omega
  refine ⟨⟨x0, x1, (some ⟨g5, 0, none⟩, x3, c5), (x5, x6, x7)⟩, rfl, RtR.rows (x := ⟨x0, x1, (x2, x3, x4), (x5, x6, x7)⟩) (va := (some ⟨g5, 0, none⟩, x3, c5)) (h.out.keeps hkf) hOf.r (fun b hb => ⟨hOf.lt b hb, fun hm => ?_⟩) ((hrw.out.keeps hkf).setAt i ?_ ?_), hkf⟩
  · have h1 := hOf.ge b hb
    have h2 := hO.out b hm
    omega
  · exact hy.out.keeps hkf
  · intro b hb
    obtain ⟨h1, h2⟩ := hyb.out b hb
    exact ⟨Nat.lt_of_lt_of_le h1 hkf.size, h2⟩
end Go.Proofs.YtpobepninifenaaGreat

namespace Go.Proofs.YtpobepninifenaaGreat
open Go Go.RowKit

/-- Rows of certificates, out of blocks that are none of O. -/
def Cw5 (O : List Nat) (w : World) (Y : List CtV) (C : List Ct) : Prop := Y.length = C.length ∧ ∀ (k : Nat) (y : CtV) (c : Ct), Y[k]? = some y → C[k]? = some c → CtO w y c ∧ ∀ b, (slv y.va).ownBlock = some b → b < w.heap.size ∧ b ∉ O
theorem Cw5.keeps {O : List Nat} {w w' : World} {Y : List CtV} {C : List Ct} (h : Cw5 O w Y C) (hk : Keeps [] w w') : Cw5 O w' Y C :=
  ⟨h.1, fun k y c e1 e2 => ⟨(h.2 k y c e1 e2).1.keeps hk, fun b hb => ⟨Nat.lt_of_lt_of_le ((h.2 k y c e1 e2).2 b hb).1 hk.size, ((h.2 k y c e1 e2).2 b hb).2⟩⟩⟩
theorem Cw5.keepO {O D : List Nat} {w w' : World} {Y : List CtV} {C : List Ct} (h : Cw5 O w Y C) (hk : Keeps D w w') (hD : ∀ b ∈ D, b ∈ O ∧ ∀ (cs : Array Value) (f : Nat × Nat), w.heap[b]? ≠ some (Obj.cells cs tC f) ∧ w.heap[b]? ≠ some (Obj.cells cs tN f) ∧ w.heap[b]? ≠ some (Obj.cells cs tI f)) : Cw5 O w' Y C :=
  ⟨h.1, fun k y c e1 e2 => ⟨(h.2 k y c e1 e2).1.keepG hk (hk.ki (fun b hb cs f => ((hD b hb).2 cs f).2.2)) (fun b hb cs f => ⟨((hD b hb).2 cs f).1, ((hD b hb).2 cs f).2.1⟩) (fun b hb hm => ((h.2 k y c e1 e2).2 b hb).2 (hD b hm).1), fun b hb => ⟨Nat.lt_of_lt_of_le ((h.2 k y c e1 e2).2 b hb).1 hk.size, ((h.2 k y c e1 e2).2 b hb).2⟩⟩⟩
theorem Cw5.snoc {O : List Nat} {w : World} {Y : List CtV} {C : List Ct} {y : CtV} {c : Ct} (h : Cw5 O w Y C) (hy : CtO w y c) (hb : ∀ b, (slv y.va).ownBlock = some b → b < w.heap.size ∧ b ∉ O) : Cw5 O w (Y ++ [y]) (C ++ [c]) := by
  obtain ⟨h1, h2⟩ := h
  refine ⟨by simp [h1], fun k a t ha ht => ?_⟩
  rcases Nat.lt_trichotomy k Y.length with hk | hk | hk
  · rw [List.getElem?_append_left hk] at ha
    rw [List.getElem?_append_left (by omega)] at ht
    exact h2 k a t ha ht
  · rw [List.getElem?_append_right (by omega), show k - Y.length = 0 by omega] at ha
    rw [List.getElem?_append_right (by omega), show k - C.length = 0 by omega] at ht
    simp at ha ht
    subst ha ht
    exact ⟨hy, hb⟩
  · rw [List.getElem?_eq_none (by simp; omega)] at ha; cases ha
theorem Rw5.erase {O : List Nat} {w : World} {X : List RfV} {A : List Tr} (h : Rw5 O w X A) (i : Nat) : Rw5 O w (X.take i ++ X.drop (i + 1)) (A.eraseIdx i) := by
  rw [← List.eraseIdx_eq_take_drop_succ]
  obtain ⟨h1, h2⟩ := h
  refine ⟨by rw [List.length_eraseIdx, List.length_eraseIdx, h1], fun k a t ha ht => ?_⟩
  rw [List.getElem?_eraseIdx] at ha ht
  split at ha
  · rename_i e; rw [if_pos e] at ht; exact h2 k a t ha ht
  · rename_i e; rw [if_neg e] at ht; exact h2 _ a t ha ht
theorem _root_.Go.Proofs.YtpobepninifenaaGreat.CtO.keepD {D : List Nat} {w w' : World} {y : CtV} {c : Ct} (h : CtO w y c) (hk : Keeps D w w') (hD : ∀ b ∈ D, ∃ (cs : Array Value) (f : Nat × Nat), w.heap[b]? = some (Obj.cells cs tCt f)) : CtO w' y c := by
  obtain ⟨X, _, _, h3⟩ := h.an
  exact h.keepG hk (hk.ki (fun b hb cs f e => by obtain ⟨cs', f', g⟩ := hD b hb; rw [g] at e; cases e)) (fun b hb cs f => ⟨(fun e => by obtain ⟨cs', f', g⟩ := hD b hb; rw [g] at e; cases e), (fun e => by obtain ⟨cs', f', g⟩ := hD b hb; rw [g] at e; cases e)⟩) (fun b hb hm => by
    obtain ⟨cs', f', g⟩ := hD b hm
    obtain ⟨cs, f, g2⟩ := h3 b hb
    rw [g] at g2
    cases g2)
/-- Other certificates. -/
theorem RtR.crows {O : List Nat} {w : World} {x : RtV} {T : Tc} (h : RtR O w x T) {vc : Option Addr × Nat × Nat} {Y : List CtV} {C : List Ct} (hY : shCt.R w (slv vc) Y) (hb : ∀ b, (slv vc).ownBlock = some b → b < w.heap.size ∧ b ∉ O) (hr : Cw5 O w Y C) : RtR O w ⟨x.m, x.s, x.va, vc⟩ { T with cs := C } :=
  ⟨h.m, h.s, h.ac, ⟨Y, hY, hb, hr.1, hr.2⟩⟩
theorem infoCr : (Tryz.prog.info? tCt).map (fun i => (i.zero, i.size, i.bytes)) = some (some (ctV ⟨0, 0, 0, 0, 0, (none, 0, 0), (none, 0, 0)⟩), 7, 88) := by kernel_rfl
/-- The parts of its state behind the certificates. -/
def FnI (O : List Nat) (w wr : World) (B : Nat) (T : Tc) (x0 x1 : Int) (va vc : Option Addr × Nat × Nat) : Prop :=
  RtR (B :: (B + 1 + 1) :: O) wr ⟨x0, x1, va, vc⟩ T ∧ wr.heap[B]? = some (.cells #[.int .i64 x0, .int .i64 x1, slv va, slv vc] tRc (0, 0)) ∧ wr.heap[B + 1 + 1]? = some (.cells #[.int .i64 0, .int .i64 0, .slice none 0 0, .slice none 0 0] tRc (0, 0)) ∧ Keeps [] w wr
theorem FnI.keeps {O : List Nat} {w wr w1 : World} {B : Nat} {T : Tc} {x0 s9 : Int} {va vc : Option Addr × Nat × Nat} (h : FnI O w wr B T x0 s9 va vc) (hk : Keeps [] wr w1) : FnI O w w1 B T x0 s9 va vc :=
  ⟨h.1.keeps hk, (hk.block _ (lt_of_blk h.2.1) (by simp)).trans h.2.1, (hk.block _ (lt_of_blk h.2.2.1) (by simp)).trans h.2.2.1, h.2.2.2.trans hk⟩
/-- Its writes at B. -/
theorem FnI.nB {O : List Nat} {w wr : World} {B : Nat} {T : Tc} {x0 s9 : Int} {va vc : Option Addr × Nat × Nat} (h : FnI O w wr B T x0 s9 va vc) : ∀ b ∈ [B], b ∈ (B :: (B + 1 + 1) :: O) ∧ ∀ (cs : Array Value) (f : Nat × Nat), wr.heap[b]? ≠ some (Obj.cells cs tC f) ∧ wr.heap[b]? ≠ some (Obj.cells cs tN f) ∧ wr.heap[b]? ≠ some (Obj.cells cs tI f) := fun b hb => by
  simp at hb; subst hb
  exact ⟨by simp, fun cs f => ⟨fun e => tag_ne h.2.1 e (by decide) rfl, fun e => tag_ne h.2.1 e (by decide) rfl, fun e => tag_ne h.2.1 e (by decide) rfl⟩⟩
theorem FnI.nC {O : List Nat} {w wr : World} {B : Nat} {T : Tc} {x0 s9 : Int} {va vc : Option Addr × Nat × Nat} (h : FnI O w wr B T x0 s9 va vc) : ∀ b ∈ [B + 1 + 1], b ∈ (B :: (B + 1 + 1) :: O) ∧ ∀ (cs : Array Value) (f : Nat × Nat), wr.heap[b]? ≠ some (Obj.cells cs tC f) ∧ wr.heap[b]? ≠ some (Obj.cells cs tN f) ∧ wr.heap[b]? ≠ some (Obj.cells cs tI f) := fun b hb => by
  simp at hb; subst hb
  exact ⟨by simp, fun cs f => ⟨fun e => tag_ne h.2.2.1 e (by decide) rfl, fun e => tag_ne h.2.2.1 e (by decide) rfl, fun e => tag_ne h.2.2.1 e (by decide) rfl⟩⟩
/-- The result is laid. -/
theorem FnI.done {O : List Nat} {w wr w' : World} {B : Nat} {T : Tc} {x0 s9 : Int} {va vc : Option Addr × Nat × Nat} (h : FnI O w wr B T x0 s9 va vc) (hB : w.heap.size = B) (hk : Keeps [B + 1 + 1] wr w') : RtR O w' ⟨x0, s9, va, vc⟩ T ∧ Keeps [] w w' :=
  ⟨(h.1.keepO hk h.nC).sub (fun b hb _ => by simp [hb]), h.2.2.2.fresh hk (fun b hb => .inr (by simp at hb; subst hb; omega))⟩
def errF (o : Option Nat) : Int := match o with | none => 6 | some _ => 0
def RFinPost (O : List Nat) (w : World) (T : Tc) (id : Idp) (e : Ending) (w' : World) : Prop :=
  ∃ x', e = .returned (.tuple #[rtV x', .int .i64 (errF (T.find id))]) ∧ RtR O w' x' (T.finish id) ∧ Keeps [] w w'
set_option maxRecDepth 100000 in
set_option maxHeartbeats 8000000 in
theorem rfinish_c (O : List Nat) (w : World) (x : RtV) (T : Tc) (id : Idp) (h : RtR O w x T) (hO : ∀ b ∈ O, b < w.heap.size) (hal : T.act.length ≤ 10000) (hcl : T.cs.length ≤ 10000) (hi : ∀ t ∈ T.act, t.Inv ∧ t.qs.length ≤ 1000 ∧ (t.rf = true → t.state = 4)) :
    Calls Tryz.prog 29 #[rtV x, ipV id] w (RFinPost O w T id) := by
  have hfc := fun (W : World) (hk : Keeps [] w W) => rfind_c O W x T (h.keeps hk) id (by omega)
  obtain ⟨x0, x1, ⟨x2, x3, x4⟩, ⟨x5, x6, x7⟩⟩ := x
  obtain ⟨hb1, hb2, hb3, hkW, hzW⟩ := blks3 w (.cells #[.int .i64 x0, .int .i64 x1, .slice x2 x3 x4, .slice x5 x6 x7] tRc) (.cells #[.int .i64 id.1, .int .i64 id.2] tId) (.cells #[.int .i64 0, .int .i64 0, .slice none 0 0, .slice none 0 0] tRc)
  have hRB : RtR (w.heap.size :: (w.heap.size + 1 + 1) :: O) w ⟨x0, x1, (x2, x3, x4), (x5, x6, x7)⟩ T := h.sub (fun b hb hl => by
    simp only [List.mem_cons] at hb
    rcases hb with e | e | e
    · omega
    · omega
    · exact e)
  simp only [rtV, ipV, slv] at hfc ⊢
  replace hO := Lib.hid hO
  replace hfc := Lib.hid hfc
  replace hi := Lib.hid hi
  replace hal := Lib.hid hal
  replace hcl := Lib.hid hcl
  clear h
  go_enter Tryz.func29, Tryz.ntmps29
  go_upto_region 1 with fail
  generalize (((w.alloc (.cells #[.int .i64 x0, .int .i64 x1, .slice x2 x3 x4, .slice x5 x6 x7] tRc)).alloc (.cells #[.int .i64 id.1, .int .i64 id.2] tId)).alloc (.cells #[.int .i64 0, .int .i64 0, .slice none 0 0, .slice none 0 0] tRc)) = W at *
  obtain ⟨B, hB⟩ : ∃ B, w.heap.size = B := ⟨_, rfl⟩
  unfold RFinPost
  rw [hB] at hb1 hb2 hb3 hzW hRB ⊢
  obtain ⟨z0, z1, z2, z3, zf, zl⟩ := cl4 hb1
  obtain ⟨n0, n1, nf, nl⟩ := cl2 hb2
  have hI0 : FnI O w W B T x0 x1 (x2, x3, x4) (x5, x6, x7) := ⟨hRB.keeps hkW, hb1, hb3, hkW⟩
  replace hI0 := Lib.hid hI0
  replace hkW := Lib.hid hkW
  replace hB := Lib.hid hB
  replace hzW := Lib.hid hzW
  clear hb1 hb2 hb3 hRB
  obtain ⟨F, hF⟩ : ∃ F, T.findI id = F := ⟨_, rfl⟩
  rw [hF] at hfc
  obtain ⟨id0, id1⟩ := id
  go_wp2_with fail
  refine (hfc.out W hkW.out).mono ?_
  rintro e w1 ⟨rfl, hk1⟩
  have hI1 := Lib.hid (hI0.out.keeps hk1)
  clear hk1 hfc z0 z1 z2 z3 zf zl n0 n1 nf nl hI0 hkW hzW
  obtain ⟨z0, z1, z2, z3, zf, zl⟩ := cl4 hI1.out.2.1
  simp only [slv] at z2 z3
  cases hf : T.find (id0, id1) with
  | none =>
    have hF1 : F = -1 := by rw [← hF]; unfold Tc.findI; rw [hf]
    subst hF1
    have hfin := T.finish_none hf
    obtain ⟨n0, n1, n2, n3, nf, nl⟩ := cl4 hI1.out.2.2.1
    obtain ⟨g1, g2⟩ := sc4 (.int .i64 x0) (.int .i64 x1) (.slice x2 x3 x4) (.slice x5 x6 x7) hI1.out.2.2.1
    obtain ⟨d1, d2⟩ := hI1.out.done hB.out g2
    replace hfin := Lib.hid hfin
    replace g1 := Lib.hid g1
    replace d1 := Lib.hid d1
    replace d2 := Lib.hid d2
    clear g2 hF
    replace hf := Lib.hid hf
    go_wp2
    refine bodyPost_ret (results_rt2 rfl _ _ _ _ _ _ _ _ _ rfl g1.out) rfl ?_
    exact ⟨⟨x0, x1, (x2, x3, x4), (x5, x6, x7)⟩, by rw [hf.out]; rfl, by rw [hfin.out]; exact d1.out, d2.out⟩
  | some i =>
    have hF1 : F = (i : Int) := by rw [← hF]; unfold Tc.findI; rw [hf]
    subst hF1
    obtain ⟨hia, hid⟩ := T.find_some hf
    have hfin := T.finish_at hf hia
    obtain ⟨u, hu⟩ : ∃ u, T.act[i] = u := ⟨_, rfl⟩
    obtain ⟨hi1, hi2, hi3⟩ := hi.out _ (List.getElem_mem hia)
    rw [hu] at hfin hi1 hi2 hi3
    replace hfin := Lib.hid hfin
    replace hi1 := Lib.hid hi1
    replace hi3 := Lib.hid hi3
    replace hu := Lib.hid hu
    clear hid hF hi
    replace hf := Lib.hid hf
    obtain ⟨XA, hXA, -, hXAl, hXAr⟩ := hI1.out.1.ac
    have hiX : i < XA.length := by rw [hXAl]; exact hia
    obtain ⟨hRy, -⟩ := hXAr i _ _ (List.getElem?_eq_getElem hiX) (List.getElem?_eq_getElem hia)
    rw [hu.out] at hRy
    simp only [slv] at hXA
    have hx3 : x3 = XA.length := by
      obtain ⟨_, _, e, _, _⟩ := hXA.form
      simp only [Value.slice.injEq] at e
      exact e.2.1
    obtain ⟨g, o, c', hv, he⟩ := hXA.elem hiX
    rw [← hx3] at hv
    cases hv
    have hi3x : i < x3 := by rw [hx3]; exact hiX
    have hi3i : (i : Int) < x3 := by omega
    have hx3m : x3 ≤ 10000 := by rw [hx3, hXAl]; exact hal.out
    replace hiX := Lib.hid hiX
    have hst : (XA[i]'hiX.out).st = u.state := hRy.st
    obtain ⟨⟨y0, y1, y2, y3, y4, y5, ⟨y6, y7, y8⟩, ⟨y9, y10, y11⟩, y12, ⟨y13, y14, y15⟩, y16, ⟨y17, y18, y19⟩⟩, hy⟩ : ∃ y, XA[i]'hiX.out = y := ⟨_, rfl⟩
    rw [hy] at he hRy hst
    simp only at hst
    have e0 := he 0 _ rfl
    have e1 := he 1 _ rfl
    have e2 := he 2 _ rfl
    have e3 := he 3 _ rfl
    have e4 := he 4 _ rfl
    have e5 := he 5 _ rfl
    have e6 := he 6 _ rfl
    have e7 := he 7 _ rfl
    have e8 := he 8 _ rfl
    have e9 := he 9 _ rfl
    have e10 := he 10 _ rfl
    have e11 := he 11 _ rfl
    simp only [shRf, RfV.cs, slv, Nat.add_zero] at e0 e1 e2 e3 e4 e5 e6 e7 e8 e9 e10 e11
    replace hXA := Lib.hid hXA
    replace hRy := Lib.hid hRy
    replace hst := Lib.hid hst
    replace hy := Lib.hid hy
    replace hx3 := Lib.hid hx3
    clear he hXAl hXAr
    replace hi2 := Lib.hid hi2
    obtain ⟨C', hC'⟩ : ∃ c, (if u.state = 2 then T.cs ++ [certOf u] else T.cs) = c := ⟨_, rfl⟩
    rw [hC'] at hfin
    replace hC' := Lib.hid hC'
    go_upto_if 19 with fail
    go_cut [20] from 21 to 32 (fun _ wx => ∃ (v5 : Option Addr) (v6 v7 : Nat), Hid (FnI O w wx B { T with cs := C' } x0 x1 (some ⟨g, o, none⟩, x3, x4) (v5, v6, v7)))
    case first =>
      by_cases hs : y5 = 2
      · subst hs
        have hs2 : u.state = 2 := hst.out.symm
        have hC2 : C' = T.cs ++ [certOf u] := by rw [← hC'.out, if_pos hs2]
        have hcc := fun (W : World) (hk : Keeps [] w1 W) => rcert_c W _ u (hRy.out.keeps hk) hi1.out hi2.out hi3.out hs2
        simp only [rfV, slv] at hcc
        replace hcc := Lib.hid hcc
        replace hs2 := Lib.hid hs2
        replace hC2 := Lib.hid hC2
        go_upto_region 5 with fail
        obtain ⟨YC, hYC, -, hYl, hYr⟩ := hI1.out.1.cs
        have hcw : Cw5 (B :: (B + 1 + 1) :: O) w1 YC T.cs := ⟨hYl, hYr⟩
        simp only [slv] at hYC
        have hYm : YC.length ≤ 10000 := by rw [hYl]; exact hcl.out
        have hOlt : ∀ b ∈ (B :: (B + 1 + 1) :: O), b < w1.heap.size := fun b hb => by
          simp only [List.mem_cons] at hb
          rcases hb with e | e | e
          · have := lt_of_blk hI1.out.2.1; omega
          · have := lt_of_blk hI1.out.2.2.1; omega
          · have h1 := hO.out b e; have h2 := hI1.out.2.2.2.size; omega
        replace hOlt := Lib.hid hOlt
        replace hYm := Lib.hid hYm
        replace hYC := Lib.hid hYC
        replace hcw := Lib.hid hcw
        clear hYl hYr
        refine Free.wp_region_chain (fun i => i == 0 || i == 3 || i == 9 || i == 10 || i == 11 || i == 13) (fun i => true) (fun j b => ((j = 3 ∨ j = 11) ∧ w1.heap.size ≤ b) ∨ (j = 13 ∧ b = B)) (by kernel_rfl) (by kernel_rfl) (by kernel_rfl) ?_
        refine Free.cw_loud rfl rfl (fun K hK => ?_)
        go_wp2
        refine hK _ _ rfl (Free.KeepsP.alloc _ _ _) ?_
        clear hK K
        (repeat (first | (apply Free.cw_pure rfl rfl; (intro w'; go_simp <;> exact rfl); go_frame) | (apply Free.cw_steady rfl rfl rfl; (intro w' hS; have q0 := Free.sx_cell hS z3 (fun j hp hT => Or.elim hT (fun h => by have := lt_of_cell z3; have := h.2; omega) (fun h => by obtain ⟨rfl, _⟩ := h; exact absurd hp (by decide +kernel))); go_simp <;> exact rfl); go_frame) | (refine Free.cw_skip rfl ?_; go_frame)))
        refine Free.cw_loud rfl rfl (fun K hK => ?_)
        have hOE := Sh.O.fresh shCt w1.drew w1.heap.size tCt (Nat.le_refl _)
        have hkE : Keeps [] w1 (w1.drew.alloc (.cells #[] tCt)) := (Keeps.refl [] w1).drew.alloc _
        refine Sh.wp_app shCt w1.heap.size infoCr rfl Tryz.underlying28 (.slice (some ⟨w1.heap.size, 0, none⟩) 0 0) (.slice x5 x6 x7) [] YC _ _ rfl rfl rfl hOE (hYC.out.keeps hkE) (by have := hYm.out; simp only [List.length_nil]; omega) (by simp) ?_
        intro v3 w3 hO3 hG3
        rw [List.nil_append] at hO3
        have hk3 : Keeps [] w1 w3 := hkE.fresh hG3.keepsO (fun b hb => by simp [Value.ownBlock] at hb; subst hb; exact .inr (Nat.le_refl _))
        refine hK _ _ rfl (Free.KeepsP.of hG3.keepsO (fun b hb => by simp [Value.ownBlock] at hb; subst hb; exact .inl ⟨.inl rfl, Nat.le_refl _⟩)) ?_
        clear hK K
        replace hO3 := Lib.hid hO3
        replace hk3 := Lib.hid hk3
        clear hOE hkE hG3
        (repeat (first | (apply Free.cw_pure rfl rfl; (intro w'; go_simp <;> exact rfl); go_frame) | (apply Free.cw_steady rfl rfl rfl; (intro w' hS; have q0 := Free.sx_cell hS z2 (fun j hp hT => Or.elim hT (fun h => by have := lt_of_cell z2; have := h.2; omega) (fun h => by obtain ⟨rfl, _⟩ := h; exact absurd hp (by decide +kernel))); have q1 := Free.sx_cell hS e0 (fun j hp hT => Or.elim hT (fun h => by have := lt_of_cell e0; have := h.2; omega) (fun h => by obtain ⟨rfl, _⟩ := h; exact absurd hp (by decide +kernel))); have q2 := Free.sx_cell hS e1 (fun j hp hT => Or.elim hT (fun h => by have := lt_of_cell e1; have := h.2; omega) (fun h => by obtain ⟨rfl, _⟩ := h; exact absurd hp (by decide +kernel))); have q3 := Free.sx_cell hS e2 (fun j hp hT => Or.elim hT (fun h => by have := lt_of_cell e2; have := h.2; omega) (fun h => by obtain ⟨rfl, _⟩ := h; exact absurd hp (by decide +kernel))); have q4 := Free.sx_cell hS e3 (fun j hp hT => Or.elim hT (fun h => by have := lt_of_cell e3; have := h.2; omega) (fun h => by obtain ⟨rfl, _⟩ := h; exact absurd hp (by decide +kernel))); have q5 := Free.sx_cell hS e4 (fun j hp hT => Or.elim hT (fun h => by have := lt_of_cell e4; have := h.2; omega) (fun h => by obtain ⟨rfl, _⟩ := h; exact absurd hp (by decide +kernel))); have q6 := Free.sx_cell hS e5 (fun j hp hT => Or.elim hT (fun h => by have := lt_of_cell e5; have := h.2; omega) (fun h => by obtain ⟨rfl, _⟩ := h; exact absurd hp (by decide +kernel))); have q7 := Free.sx_cell hS e6 (fun j hp hT => Or.elim hT (fun h => by have := lt_of_cell e6; have := h.2; omega) (fun h => by obtain ⟨rfl, _⟩ := h; exact absurd hp (by decide +kernel))); have q8 := Free.sx_cell hS e7 (fun j hp hT => Or.elim hT (fun h => by have := lt_of_cell e7; have := h.2; omega) (fun h => by obtain ⟨rfl, _⟩ := h; exact absurd hp (by decide +kernel))); have q9 := Free.sx_cell hS e8 (fun j hp hT => Or.elim hT (fun h => by have := lt_of_cell e8; have := h.2; omega) (fun h => by obtain ⟨rfl, _⟩ := h; exact absurd hp (by decide +kernel))); have q10 := Free.sx_cell hS e9 (fun j hp hT => Or.elim hT (fun h => by have := lt_of_cell e9; have := h.2; omega) (fun h => by obtain ⟨rfl, _⟩ := h; exact absurd hp (by decide +kernel))); have q11 := Free.sx_cell hS e10 (fun j hp hT => Or.elim hT (fun h => by have := lt_of_cell e10; have := h.2; omega) (fun h => by obtain ⟨rfl, _⟩ := h; exact absurd hp (by decide +kernel))); have q12 := Free.sx_cell hS e11 (fun j hp hT => Or.elim hT (fun h => by have := lt_of_cell e11; have := h.2; omega) (fun h => by obtain ⟨rfl, _⟩ := h; exact absurd hp (by decide +kernel))); go_simp <;> exact rfl); go_frame) | (refine Free.cw_skip rfl ?_; go_frame)))
        refine Free.cw_loud rfl rfl (fun K hK => ?_)
        go_wp2_with fail
        refine (hcc.out w3 hk3.out).mono ?_
        rintro e w4 ⟨y, rfl, hCt, hvb, hk4⟩
        refine hK _ _ rfl (Free.KeepsP.of hk4 (by simp)) ?_
        clear hK K e0 e1 e2 e3 e4 e5 e6 e7 e8 e9 e10 e11
        have hO4 := hO3.out.keeps hk4
        have hvb1 : ∀ b, (slv y.va).ownBlock = some b → w1.heap.size ≤ b := fun b hb => Nat.le_trans hk3.out.size (hvb b hb).1
        have hk4' := hk3.out.trans hk4
        obtain ⟨c0, c1, c2, c3, c4, ⟨c5, c6, c7⟩, ⟨c8, c9, c10⟩⟩ := y
        simp only [ctV, slv]
        replace hO4 := Lib.hid hO4
        replace hk4' := Lib.hid hk4'
        replace hCt := Lib.hid hCt
        replace hvb := Lib.hid hvb
        replace hvb1 := Lib.hid hvb1
        clear hO3 hk3 hk4
        refine Free.cw_loud rfl rfl (fun K hK => ?_)
        go_wp2
        refine hK _ _ rfl (Free.KeepsP.alloc _ _ _) ?_
        clear hK K
        refine Free.cw_loud rfl rfl (fun K hK => ?_)
        have hkE : Keeps [] w4 (w4.alloc (.cells #[.int .i64 c0, .int .i64 c1, .int .i64 c2, .int .u64 c3, .int .i64 c4, .slice c5 c6 c7, .slice c8 c9 c10] tCt)) := (Keeps.refl _ _).alloc _
        have hmade := (Sh.O.one shCt w4 ⟨c0, c1, c2, c3, c4, (c5, c6, c7), (c8, c9, c10)⟩ #[.int .i64 c0, .int .i64 c1, .int .i64 c2, .int .u64 c3, .int .i64 c4, .slice c5 c6 c7, .slice c8 c9 c10] tCt 0 rfl (by omega))
        have hO5 := hO4.out.keeps hkE
        have hC5 := hCt.out.keeps hkE
        have hvb5 : ∀ b, (slv (c5, c6, c7)).ownBlock = some b → b < (w4.alloc (.cells #[.int .i64 c0, .int .i64 c1, .int .i64 c2, .int .u64 c3, .int .i64 c4, .slice c5 c6 c7, .slice c8 c9 c10] tCt)).heap.size := fun b hb => Nat.lt_of_lt_of_le (hvb.out b hb).2 hkE.size
        have hk5 := hk4'.out.trans hkE
        obtain ⟨X4, hX4⟩ : ∃ m, w4.heap.size = m := ⟨_, rfl⟩
        rw [hX4] at hmade ⊢
        generalize (w4.alloc (.cells #[.int .i64 c0, .int .i64 c1, .int .i64 c2, .int .u64 c3, .int .i64 c4, .slice c5 c6 c7, .slice c8 c9 c10] tCt)) = W5 at *
        have hBE : w1.heap.size ≤ W5.heap.size := hk5.size
        refine Sh.wp_app shCt w1.heap.size infoCr rfl Tryz.underlying28 v3 (.slice (some ⟨X4, 0, none⟩) 1 1) YC [(⟨c0, c1, c2, c3, c4, (c5, c6, c7), (c8, c9, c10)⟩ : CtV)] _ _ rfl rfl rfl hO5 hmade.r (by have := hYm.out; simp only [List.length_singleton]; omega) hBE ?_
        intro v5 w6 hO6 hG6
        obtain ⟨a5, b5, rfl⟩ := hO6.form
        refine hK _ _ rfl (Free.KeepsP.of hG6.keepsO (fun b hb => .inl ⟨.inr rfl, hO5.ge b (by simpa using hb)⟩)) ?_
        clear hK K
        have hC6 := hC5.keepD hG6.keepsO (fun b hb => by obtain ⟨cs, hc⟩ := hO5.tag b (by simpa using hb); exact ⟨cs, _, hc⟩)
        have hvb6 : ∀ b, (slv (c5, c6, c7)).ownBlock = some b → b < w6.heap.size := fun b hb => Nat.lt_of_lt_of_le (hvb5 b hb) hG6.keepsO.size
        have hk6 := hk5.fresh hG6.keepsO (fun b hb => .inr (hO5.ge b (by simpa using hb)))
        clear hG6 hO5 hC5 hk5 hmade hkE hX4 hBE hO4 hk4' hCt hvb5 hvb
        have hI9 := hI1.out.keeps hk6
        have hcw9 := (hcw.out.keeps hk6).snoc hC6 (fun b hb => ⟨hvb6 b hb, fun hm => by have h1 := hvb1.out b hb; have h2 := hOlt.out b hm; omega⟩)
        obtain ⟨NA, hNA⟩ : ∃ m, (YC ++ [(⟨c0, c1, c2, c3, c4, (c5, c6, c7), (c8, c9, c10)⟩ : CtV)]).length = m := ⟨_, rfl⟩
        rw [hNA] at hO6 ⊢
        have hset : Keeps [B] w6 (w6.setCell ⟨B, 3, none⟩ (.slice a5 NA b5)) := (Keeps.refl [B] w6).setCell (.inr (by simp)) _
        have hsb := setCs hI9.2.1 3 (.slice a5 NA b5)
        have hRo := hI9.1.keepO hset hI9.nB
        have hcwo := hcw9.keepO hset hI9.nB
        have hO10 := hO6.keepS hset (fun b hb e => by simp at hb; subst hb; obtain ⟨cs, hc⟩ := hO6.tag _ e; exact tag_ne hc hI9.2.1 (by decide) rfl)
        have hRr := hRo.crows (vc := (a5, NA, b5)) hO10.r (fun b hb => ⟨hO10.lt b hb, fun hm => by have h1 := hO10.ge b hb; have h2 := hOlt.out b hm; omega⟩) hcwo
        have hZ10 := (hset.block (B + 1 + 1) (lt_of_blk hI9.2.2.1) (by simp; omega)).trans hI9.2.2.1
        have hk10 := hI9.2.2.2.fresh hset (fun b hb => .inr (by simp at hb; subst hb; exact Nat.le_of_eq hB.out))
        obtain ⟨n0, n1, n2, n3, nf, nl⟩ := cl4 hI9.2.1
        have hRN : RtR (B :: (B + 1 + 1) :: O) (w6.setCell ⟨B, 3, none⟩ (.slice a5 NA b5)) ⟨x0, x1, (some ⟨g, o, none⟩, x3, x4), (a5, NA, b5)⟩ { T with cs := C' } := by rw [hC2.out]; exact hRr
        have hI10 : FnI O w (w6.setCell ⟨B, 3, none⟩ (.slice a5 NA b5)) B { T with cs := C' } x0 x1 (some ⟨g, o, none⟩, x3, x4) (a5, NA, b5) := ⟨hRN, hsb, hZ10, hk10⟩
        replace hI10 := Lib.hid hI10
        replace hset := Lib.hid hset
        replace hNA := Lib.hid hNA
        clear hRN hRr hRo hcwo hO10 hZ10 hk10 hsb hcw9 hI9 hk6 hC6 hO6 hvb6
        simp only [slv] at n2 n3
        clear z0 z1 z2 z3 zf zl
        (repeat (apply Free.cw_pure rfl rfl; (intro w'; go_simp <;> exact rfl); go_frame))
        refine Free.cw_loud rfl rfl (fun K hK => ?_)
        go_wp2
        refine hK _ _ rfl (Free.KeepsP.of hset.out (fun b hb => .inr ⟨trivial, by simpa using hb⟩)) ?_
        clear hK K n0 n1 n2 n3 nf nl hset
        generalize (w6.setCell ⟨B, 3, none⟩ (.slice a5 NA b5)) = W10 at *
        refine Free.cw_nil ?_
        go_wp2
        go_meet
        exact ⟨a5, NA, b5, hI10⟩
      · have hC2 : C' = T.cs := by rw [← hC'.out, if_neg (by rw [← hst.out]; exact hs)]
        have hI2 : Hid (FnI O w w1 B { T with cs := C' } x0 x1 (some ⟨g, o, none⟩, x3, x4) (x5, x6, x7)) := Lib.hid (by rw [hC2]; exact hI1.out)
        have hsb : (y5 == 2) = false := by simpa using hs
        replace hC2 := Lib.hid hC2
        go_wp2
        go_meet
        exact ⟨x5, x6, x7, hI2⟩
    case rest =>
      obtain ⟨v5', v6, v7, hI2⟩ := hcut
      clear z0 z1 z2 z3 zf zl e0 e1 e2 e3 e4 e5 e6 e7 e8 e9 e10 e11 hXA hRy hst hy hx3 hI1
      obtain ⟨XB, hXB, -, hXl, hXr⟩ := hI2.out.1.ac
      have hrw : Rw5 (B :: (B + 1 + 1) :: O) wc XB T.act := ⟨hXl, hXr⟩
      simp only [slv] at hXB
      have hx3 : XB.length = x3 := by
        obtain ⟨_, _, e, _, _⟩ := hXB.form
        simp only [Value.slice.injEq] at e
        exact e.2.1.symm
      obtain ⟨_, _, e4, h34, h4m, -⟩ := hXB.form
      simp only [Value.slice.injEq] at e4
      have hT1 := hXB.init' i (by omega)
      have hT2 := hXB.tail' (i + 1) (by omega)
      have h4i : (i : Int) ≤ x4 := by rw [e4.2.2]; omega
      have h41 : (i : Int) + 1 ≤ x4 := by rw [e4.2.2]; omega
      have h31 : (i : Int) + 1 ≤ x3 := by omega
      have h34n : x3 ≤ x4 := by rw [e4.2.2, ← hx3]; exact h34
      have h30 : (0 : Int) ≤ (i : Int) + 1 := by omega
      have h4l : x4 ≤ 9223372036854775807 := by rw [e4.2.2]; unfold maxLen at h4m; omega
      rw [hx3] at hT2
      replace hT2 : shRf.R wc (.slice (if x4 = i + 1 then some ⟨g, o, none⟩ else some ⟨g, o + (i + 1) * 12, none⟩) (x3 - (i + 1)) (x4 - (i + 1))) (XB.drop (i + 1)) := hT2
      have hOlt : ∀ b ∈ (B :: (B + 1 + 1) :: O), b < wc.heap.size := fun b hb => by
        simp only [List.mem_cons] at hb
        rcases hb with e | e | e
        · have := lt_of_blk hI2.out.2.1; omega
        · have := lt_of_blk hI2.out.2.2.1; omega
        · have h1 := hO.out b e; have h2 := hI2.out.2.2.2.size; omega
      obtain ⟨z0, z1, z2, z3, zf, zl⟩ := cl4 hI2.out.2.1
      simp only [slv] at z2 z3
      replace hOlt := Lib.hid hOlt
      replace hT1 := Lib.hid hT1
      replace hT2 := Lib.hid hT2
      replace hrw := Lib.hid hrw
      replace hx3 := Lib.hid hx3
      replace hx3m := Lib.hid hx3m
      replace h4l := Lib.hid h4l
      clear e4 h34 h4m hXB hXl hXr hiX
      go_upto_region 6 with fail
      refine Free.wp_region_chain (fun i => i == 0 || i == 5 || i == 11 || i == 13) (fun i => true) (fun j b => ((j = 5 ∨ j = 11) ∧ wc.heap.size ≤ b) ∨ (j = 13 ∧ b = B)) (by kernel_rfl) (by kernel_rfl) (by kernel_rfl) ?_
      refine Free.cw_loud rfl rfl (fun K hK => ?_)
      go_wp2
      refine hK _ _ rfl (Free.KeepsP.alloc _ _ _) ?_
      clear hK K
      (repeat (first | (apply Free.cw_pure rfl rfl; (intro w'; go_simp <;> exact rfl); go_frame) | (apply Free.cw_steady rfl rfl rfl; (intro w' hS; have q0 := Free.sx_cell hS z2 (fun j hp hT => Or.elim hT (fun h => by have := lt_of_cell z2; have := h.2; omega) (fun h => by obtain ⟨rfl, _⟩ := h; exact absurd hp (by decide +kernel))); go_simp <;> exact rfl); go_frame) | (refine Free.cw_skip rfl ?_; go_frame)))
      refine Free.cw_loud rfl rfl (fun K hK => ?_)
      have hOE := (Sh.O.fresh shRf wc wc.heap.size tR (Nat.le_refl _)).keeps ((Keeps.refl [] (wc.alloc (.cells #[] tR))).drew)
      have hkE : Keeps [] wc ((wc.alloc (.cells #[] tR)).drew) := ((Keeps.refl [] wc).alloc _).drew
      refine Sh.wp_app shRf wc.heap.size infoRf rfl Tryz.underlying27 (.slice (some ⟨wc.heap.size, 0, none⟩) 0 0) (.slice (some ⟨g, o, none⟩) i x4) [] (XB.take i) _ _ rfl rfl rfl hOE (hT1.out.keeps hkE) (by have := hx3m.out; have := hx3.out; simp only [List.length_nil, List.length_take]; omega) hkE.size ?_
      intro v5 w3 hO3 hG3
      rw [List.nil_append] at hO3
      have hk3 : Keeps [] wc w3 := hkE.fresh hG3.keepsO (fun b hb => by simp [Value.ownBlock] at hb; subst hb; exact .inr (Nat.le_refl _))
      refine hK _ _ rfl (Free.KeepsP.of hG3.keepsO (fun b hb => by simp [Value.ownBlock] at hb; subst hb; exact .inl ⟨.inl rfl, Nat.le_refl _⟩)) ?_
      clear hK K
      replace hO3 := Lib.hid hO3
      replace hk3 := Lib.hid hk3
      clear hOE hkE hG3
      have hwr : IntKind.i64.wrap ((i : Int) + 1) = (i : Int) + 1 := IntWalk.i64_in _ (by have := hx3m.out; omega)
      have hwt : ((i : Int) + 1).toNat = i + 1 := by omega
      (repeat (first | (apply Free.cw_pure rfl rfl; (intro w'; go_simp <;> exact rfl); go_frame) | (apply Free.cw_steady rfl rfl rfl; (intro w' hS; have q0 := Free.sx_cell hS z2 (fun j hp hT => Or.elim hT (fun h => by have := lt_of_cell z2; have := h.2; omega) (fun h => by obtain ⟨rfl, _⟩ := h; exact absurd hp (by decide +kernel))); go_simp <;> exact rfl); go_frame) | (refine Free.cw_skip rfl ?_; go_frame)))
      clear hwr hwt
      refine Free.cw_loud rfl rfl (fun K hK => ?_)
      have hBE : wc.heap.size ≤ w3.heap.size := hk3.out.size
      refine Sh.wp_app shRf wc.heap.size infoRf rfl Tryz.underlying27 v5 (.slice (if x4 = i + 1 then some ⟨g, o, none⟩ else some ⟨g, o + (i + 1) * 12, none⟩) (x3 - (i + 1)) (x4 - (i + 1))) (XB.take i) (XB.drop (i + 1)) _ _ rfl rfl rfl hO3.out (hT2.out.keeps hk3.out) (by have := hx3m.out; have := hx3.out; simp only [List.length_drop, List.length_take]; omega) hBE ?_
      intro v8 w6 hO6 hG6
      obtain ⟨a8, b8, rfl⟩ := hO6.form
      refine hK _ _ rfl (Free.KeepsP.of hG6.keepsO (fun b hb => .inl ⟨.inr rfl, hO3.out.ge b (by simpa using hb)⟩)) ?_
      clear hK K
      clear hT2
      generalize (if x4 = i + 1 then some (⟨g, o, none⟩ : Addr) else some ⟨g, o + (i + 1) * 12, none⟩) = ad
      have hk6 := hk3.out.fresh hG6.keepsO (fun b hb => .inr (hO3.out.ge b (by simpa using hb)))
      have hI9 := hI2.out.keeps hk6
      have hrw9 := (hrw.out.keeps hk6).erase i
      obtain ⟨NA, hNA⟩ : ∃ m, (XB.take i ++ XB.drop (i + 1)).length = m := ⟨_, rfl⟩
      rw [hNA] at hO6 ⊢
      have hset : Keeps [B] w6 (w6.setCell ⟨B, 2, none⟩ (.slice a8 NA b8)) := (Keeps.refl [B] w6).setCell (.inr (by simp)) _
      have hsb := setCs hI9.2.1 2 (.slice a8 NA b8)
      have hRo := hI9.1.keepO hset hI9.nB
      have hrwo := hrw9.keepO hset (fun b hb => ⟨(hI9.nB b hb).1, fun cs f => ((hI9.nB b hb).2 cs f).2.2⟩)
      have hO10 := hO6.keepS hset (fun b hb e => by simp at hb; subst hb; obtain ⟨cs, hc⟩ := hO6.tag _ e; exact tag_ne hc hI9.2.1 (by decide) rfl)
      have hRr := hRo.rows (va := (a8, NA, b8)) hO10.r (fun b hb => ⟨hO10.lt b hb, fun hm => by have h1 := hO10.ge b hb; have h2 := hOlt.out b hm; omega⟩) hrwo
      have hZ10 := (hset.block (B + 1 + 1) (lt_of_blk hI9.2.2.1) (by simp; omega)).trans hI9.2.2.1
      have hk10 := hI9.2.2.2.fresh hset (fun b hb => .inr (by simp at hb; subst hb; exact Nat.le_of_eq hB.out))
      obtain ⟨n0, n1, n2, n3, nf, nl⟩ := cl4 hI9.2.1
      have hRN : RtR (B :: (B + 1 + 1) :: O) (w6.setCell ⟨B, 2, none⟩ (.slice a8 NA b8)) ⟨x0, x1, (a8, NA, b8), (v5', v6, v7)⟩ (T.finish (id0, id1)) := by rw [hfin.out]; exact hRr
      have hI10 : FnI O w (w6.setCell ⟨B, 2, none⟩ (.slice a8 NA b8)) B (T.finish (id0, id1)) x0 x1 (a8, NA, b8) (v5', v6, v7) := ⟨hRN, hsb, hZ10, hk10⟩
      replace hI10 := Lib.hid hI10
      replace hset := Lib.hid hset
      replace hNA := Lib.hid hNA
      clear hRN hRr hRo hrwo hO10 hZ10 hk10 hsb hrw9 hI9 hk6 hO6 hG6 hBE
      simp only [slv] at n2 n3
      clear z0 z1 z2 z3 zf zl
      (repeat (apply Free.cw_pure rfl rfl; (intro w'; go_simp <;> exact rfl); go_frame))
      refine Free.cw_loud rfl rfl (fun K hK => ?_)
      go_wp2
      refine hK _ _ rfl (Free.KeepsP.of hset.out (fun b hb => .inr ⟨trivial, by simpa using hb⟩)) ?_
      clear hK K n0 n1 n2 n3 nf nl hset
      generalize (w6.setCell ⟨B, 2, none⟩ (.slice a8 NA b8)) = W10 at *
      refine Free.cw_nil ?_
      obtain ⟨z0, z1, z2, z3, zf, zl⟩ := cl4 hI10.out.2.1
      obtain ⟨n0, n1, n2, n3, nf, nl⟩ := cl4 hI10.out.2.2.1
      simp only [slv] at z2 z3
      obtain ⟨g1, g2⟩ := sc4 (.int .i64 x0) (.int .i64 x1) (.slice a8 NA b8) (.slice v5' v6 v7) hI10.out.2.2.1
      obtain ⟨d1, d2⟩ := hI10.out.done hB.out g2
      replace g1 := Lib.hid g1
      replace d1 := Lib.hid d1
      replace d2 := Lib.hid d2
      clear g2
      go_wp2
      refine bodyPost_ret (results_rt2 rfl _ _ _ _ _ _ _ _ _ rfl g1.out) rfl ?_
      exact ⟨⟨x0, x1, (a8, NA, b8), (v5', v6, v7)⟩, by rw [hf.out]; rfl, d1.out, d2.out⟩
end Go.Proofs.YtpobepninifenaaGreat

namespace Go.Proofs.YtpobepninifenaaGreat
open Go Go.ChangeShapes Go.WideShapes Go.ChangeAt Go.RowKit

abbrev tO5 : Nat := 41
structure Op5.Fit (o : Op5) : Prop where
  k : W64 o.k
  i : W64 o.i
  n : W64 o.n
  S : ∀ x ∈ o.S, smOk x
  a : o.a.Fit
  id : ipOk o.id
/-- The cells of an operation. -/
def OpC5 (w : World) (cs : List Value) (o : Op5) : Prop := ∃ (v : Option Addr × Nat × Nat) (x : AnV), cs = .int .i64 o.k :: .int .i64 o.i :: .int .i64 o.n :: slv v :: (x.cs ++ [.int .i64 o.id.1, .int .i64 o.id.2]) ∧ Sms w (slv v) o.S ∧ InR w x o.a ∧ o.Fit
theorem Sms.form {w : World} {v : Value} {S : List Sm} (h : Sms w v S) : ∃ a c, v = .slice a S.length c := by
  obtain ⟨X, h1, h2⟩ := h
  obtain ⟨a, c, e, _⟩ := h1.form
  exact ⟨a, c, by rw [e, ← h2, List.length_map]⟩
theorem OpC5.keeps {w w' : World} {cs : List Value} {o : Op5} (h : OpC5 w cs o) (hk : Keeps [] w w') : OpC5 w' cs o := by
  obtain ⟨v, x, h1, h2, h3, h4⟩ := h
  exact ⟨v, x, h1, h2.keeps hk, h3.keep hk (by simp), h4⟩
/-- A list of operations that is read. -/
def LO5 (w : World) (v : Value) (L : List Op5) : Prop := Gen.SlR OpC5 14 w v L
theorem LO5.keeps {w w' : World} {v : Value} {L : List Op5} (h : LO5 w v L) (hk : Keeps [] w w') : LO5 w' v L := Gen.SlR.keeps h hk (fun _ _ h => h.keeps hk)
theorem LO5.elem {w : World} {v : Value} {L : List Op5} (h : LO5 w v L) {k : Nat} (hk : k < L.length) : ∃ g o c s x, v = .slice (some ⟨g, o, none⟩) L.length c ∧ Sms w (slv s) L[k].S ∧ InR w x L[k].a ∧ L[k].Fit ∧
    w.cell? ⟨g, o + k * 14, none⟩ = some (.int .i64 L[k].k) ∧ w.cell? ⟨g, o + k * 14 + 1, none⟩ = some (.int .i64 L[k].i) ∧ w.cell? ⟨g, o + k * 14 + 2, none⟩ = some (.int .i64 L[k].n) ∧ w.cell? ⟨g, o + k * 14 + 3, none⟩ = some (slv s) ∧ w.cell? ⟨g, o + k * 14 + 4, none⟩ = some (.int .i64 x.m) ∧ w.cell? ⟨g, o + k * 14 + 5, none⟩ = some (.int .i64 x.ow) ∧
    w.cell? ⟨g, o + k * 14 + 6, none⟩ = some (.int .u64 x.n) ∧ w.cell? ⟨g, o + k * 14 + 7, none⟩ = some (.int .i64 x.ep) ∧ w.cell? ⟨g, o + k * 14 + 8, none⟩ = some (.bool x.kn) ∧ w.cell? ⟨g, o + k * 14 + 9, none⟩ = some (.bool x.rt) ∧ w.cell? ⟨g, o + k * 14 + 10, none⟩ = some (.int .i64 x.lu) ∧ w.cell? ⟨g, o + k * 14 + 11, none⟩ = some x.v ∧
    w.cell? ⟨g, o + k * 14 + 12, none⟩ = some (.int .i64 L[k].id.1) ∧ w.cell? ⟨g, o + k * 14 + 13, none⟩ = some (.int .i64 L[k].id.2) := by
  obtain ⟨g, o, c, xs, h1, h2, ⟨s, x, e, h3, h4, h5⟩, h6⟩ := Gen.SlR.elem h (by decide) hk
  subst e
  exact ⟨g, o, c, s, x, h1, h3, h4, h5, h6 0 _ rfl, h6 1 _ rfl, h6 2 _ rfl, h6 3 _ rfl, h6 4 _ rfl, h6 5 _ rfl, h6 6 _ rfl, h6 7 _ rfl, h6 8 _ rfl, h6 9 _ rfl, h6 10 _ rfl, h6 11 _ rfl, h6 12 _ rfl, h6 13 _ rfl⟩
set_option maxRecDepth 100000 in
set_option maxHeartbeats 1000000 in
theorem cs_sm {w : World} {cs : List Value} (h : Gen.Cs Tryz.prog w 58 cs) : ∃ y : SmV, cs = shSm.cf y ∧ smOk y.p := by
  obtain ⟨hl, hall⟩ := Gen.Cs.struct Tryz.underlying58 h
  rw [show Tryz.prog.cellsOf 58 = 5 by kernel_rfl] at hl
  obtain ⟨a, b, c, d, e, rfl⟩ : ∃ a b c d e, cs = [a, b, c, d, e] := by
    match cs, hl with
    | [a, b, c, d, e], _ => exact ⟨a, b, c, d, e, rfl⟩
  have h0 := hall 0 _ rfl
  have h1 := hall 1 _ rfl
  have h2 := hall 2 _ rfl
  have h3 := hall 3 _ rfl
  have h4 := hall 4 _ rfl
  replace h0 : Gen.Cs Tryz.prog w 3 (([a, b, c, d, e].drop 0).take (Tryz.prog.cellsOf 3)) := h0
  replace h1 : Gen.Cs Tryz.prog w 34 (([a, b, c, d, e].drop 1).take (Tryz.prog.cellsOf 34)) := h1
  replace h2 : Gen.Cs Tryz.prog w 4 (([a, b, c, d, e].drop 2).take (Tryz.prog.cellsOf 4)) := h2
  replace h3 : Gen.Cs Tryz.prog w 3 (([a, b, c, d, e].drop 3).take (Tryz.prog.cellsOf 3)) := h3
  replace h4 : Gen.Cs Tryz.prog w 35 (([a, b, c, d, e].drop 4).take (Tryz.prog.cellsOf 35)) := h4
  rw [show Tryz.prog.cellsOf 3 = 1 by kernel_rfl] at h0 h3
  rw [show Tryz.prog.cellsOf 34 = 1 by kernel_rfl] at h1
  rw [show Tryz.prog.cellsOf 4 = 1 by kernel_rfl] at h2
  rw [show Tryz.prog.cellsOf 35 = 1 by kernel_rfl] at h4
  obtain ⟨z0, e0, w0⟩ := Gen.Cs.int Tryz.underlying3 h0
  obtain ⟨z1, e1, w1⟩ := Gen.Cs.int Tryz.underlying34 h1
  obtain ⟨z2, e2⟩ := Gen.Cs.bool Tryz.underlying4 h2
  obtain ⟨z3, e3, w3⟩ := Gen.Cs.int Tryz.underlying3 h3
  obtain ⟨y1, ey, wy⟩ := u64_wf w1
  rw [ey] at e1
  simp at e0 e1 e2 e3 h4
  subst e0 e1 e2 e3
  obtain ⟨L, g4, _⟩ := cs_inset h4
  obtain ⟨x4, k4, rfl, _⟩ := g4.form
  exact ⟨⟨z0, y1, z2, z3, (x4, L.length, k4)⟩, rfl, ⟨w64_wf w0, wy⟩⟩
set_option maxRecDepth 100000 in
set_option maxHeartbeats 1000000 in
theorem cs_sms {w : World} {v : Value} (h : Gen.Cs Tryz.prog w 33 [v]) : ∃ S : List Sm, Sms w v S ∧ ∀ x ∈ S, smOk x := by
  obtain ⟨L, hL, _⟩ := Gen.SlR.open (R := fun _ cs (y : SmV) => cs = shSm.cf y ∧ smOk y.p) Tryz.underlying33 (show Tryz.prog.cellsOf 58 = 5 by kernel_rfl) (by decide) (fun cs hcs => cs_sm hcs) h
  refine ⟨L.map SmV.p, ⟨L, Sh.R.of_slR (s := shSm) (fun cs x h => h.1) hL, rfl⟩, fun x hx => ?_⟩
  obtain ⟨y, hy, rfl⟩ := List.mem_map.1 hx
  obtain ⟨k, hk, rfl⟩ := List.mem_iff_getElem.1 hy
  obtain ⟨cs, _, h2⟩ := hL
  exact (h2 k hk).2
set_option maxRecDepth 100000 in
set_option maxHeartbeats 1000000 in
theorem cs_op5 {w : World} {cs : List Value} (h : Gen.Cs Tryz.prog w tO5 cs) : ∃ o, OpC5 w cs o := by
  obtain ⟨hl, hall⟩ := Gen.Cs.struct Tryz.underlying41 h
  rw [show Tryz.prog.cellsOf tO5 = 14 by kernel_rfl] at hl
  obtain ⟨a, b, c, d, e, f, g, i, j, k, l, m, n, o, rfl⟩ : ∃ a b c d e f g i j k l m n o, cs = [a, b, c, d, e, f, g, i, j, k, l, m, n, o] := by
    match cs, hl with
    | [a, b, c, d, e, f, g, i, j, k, l, m, n, o], _ => exact ⟨a, b, c, d, e, f, g, i, j, k, l, m, n, o, rfl⟩
  have h0 := hall 0 _ rfl
  have h1 := hall 1 _ rfl
  have h2 := hall 2 _ rfl
  have h3 := hall 3 _ rfl
  have h4 := hall 4 _ rfl
  have h5 := hall 5 _ rfl
  replace h0 : Gen.Cs Tryz.prog w 3 (([a, b, c, d, e, f, g, i, j, k, l, m, n, o].drop 0).take (Tryz.prog.cellsOf 3)) := h0
  replace h1 : Gen.Cs Tryz.prog w 3 (([a, b, c, d, e, f, g, i, j, k, l, m, n, o].drop 1).take (Tryz.prog.cellsOf 3)) := h1
  replace h2 : Gen.Cs Tryz.prog w 3 (([a, b, c, d, e, f, g, i, j, k, l, m, n, o].drop 2).take (Tryz.prog.cellsOf 3)) := h2
  replace h3 : Gen.Cs Tryz.prog w 33 (([a, b, c, d, e, f, g, i, j, k, l, m, n, o].drop 3).take (Tryz.prog.cellsOf 33)) := h3
  replace h4 : Gen.Cs Tryz.prog w tA (([a, b, c, d, e, f, g, i, j, k, l, m, n, o].drop 4).take (Tryz.prog.cellsOf tA)) := h4
  replace h5 : Gen.Cs Tryz.prog w 39 (([a, b, c, d, e, f, g, i, j, k, l, m, n, o].drop 12).take (Tryz.prog.cellsOf 39)) := h5
  rw [show Tryz.prog.cellsOf 3 = 1 by kernel_rfl] at h0 h1 h2
  rw [show Tryz.prog.cellsOf 33 = 1 by kernel_rfl] at h3
  rw [show Tryz.prog.cellsOf tA = 8 by kernel_rfl] at h4
  rw [show Tryz.prog.cellsOf 39 = 2 by kernel_rfl] at h5
  obtain ⟨z0, e0, w0⟩ := Gen.Cs.int Tryz.underlying3 h0
  obtain ⟨z1, e1, w1⟩ := Gen.Cs.int Tryz.underlying3 h1
  obtain ⟨z2, e2, w2⟩ := Gen.Cs.int Tryz.underlying3 h2
  simp at e0 e1 e2 h3
  obtain ⟨S, hS, hSf⟩ := cs_sms h3
  obtain ⟨y, x, hx, hI, hF⟩ := cs_ans h4
  obtain ⟨p, q, hp, wp, wq⟩ := cs_tid h5
  obtain ⟨sa, sc, hs⟩ := hS.form
  subst e0 e1 e2 hs
  simp at hx hp
  obtain ⟨rfl, rfl⟩ := hp
  exact ⟨⟨z0, z1, z2, S, y, (p, q)⟩, (sa, S.length, sc), x, by rw [← hx]; rfl, hS, hI, ⟨w64_wf w0, w64_wf w1, w64_wf w2, hSf, hF, ⟨wp, wq⟩⟩⟩
set_option maxRecDepth 100000 in
set_option maxHeartbeats 1000000 in
theorem open_ops5 {H : Type} {enc : TypeId × Value → H} {W : World} {base : Nat} {r : Reach} {v : Value} {d : DataW H} {ps : List MemPlace} (hv : Value.okWide Tryz.prog W r base 22 v)
    (h : DataW.Trod enc Tryz.prog W 0 (fun _ => true) true 22 v d ps) : ∃ L : List Op5, LO5 W v L := by
  obtain ⟨a0, n0, c0, rfl⟩ := okWide_slice Tryz.underlying22 hv
  obtain ⟨L, hL, _⟩ := Gen.SlR.open (R := OpC5) Tryz.underlying22 (show Tryz.prog.cellsOf tO5 = 14 by kernel_rfl) (by decide) (fun cs hcs => cs_op5 hcs) (Gen.Cs.of_trod rfl h)
  exact ⟨L, hL⟩
set_option maxRecDepth 100000 in
set_option maxHeartbeats 1000000 in
theorem open_sms {H : Type} {enc : TypeId × Value → H} {W : World} {base : Nat} {r : Reach} {v : Value} {d : DataW H} {ps : List MemPlace} (hv : Value.okWide Tryz.prog W r base 33 v)
    (h : DataW.Trod enc Tryz.prog W 0 (fun _ => true) true 33 v d ps) : ∃ S : List Sm, Sms W v S ∧ ∀ x ∈ S, smOk x := by
  obtain ⟨a0, n0, c0, rfl⟩ := okWide_slice Tryz.underlying33 hv
  exact cs_sms (Gen.Cs.of_trod rfl h)
def few5 (L : List Op5) (M : Int) : Bool := L.all (fun o => decide (o.S.length ≤ 4) && decide (o.a.ins.length ≤ 4)) && decide ((L.length : Int) ≤ M)
theorem few5_of {L : List Op5} {M : Int} (h : few5 L M = true) : (∀ o ∈ L, o.S.length ≤ 4 ∧ o.a.ins.length ≤ 4) ∧ (L.length : Int) ≤ M := by
  unfold few5 at h
  rw [Bool.and_eq_true, List.all_eq_true] at h
  exact ⟨fun o ho => by simpa using h.1 o ho, by simpa using h.2⟩
set_option maxRecDepth 100000 in
set_option maxHeartbeats 4000000 in
theorem few_c (w : World) (v0 : Value) (L : List Op5) (mo : Int) (h : LO5 w v0 L) :
    Calls Tryz.prog 10 #[v0, .int .i64 mo] w fun e w' => e = .returned (.bool (few5 L mo)) ∧ Keeps [] w w' := by
  obtain ⟨a0, c0, rfl, hlc, hcm, _⟩ := Gen.SlR.form h
  obtain ⟨M, hM⟩ : ∃ n, L.length = n := ⟨_, rfl⟩
  rw [hM] at hlc h ⊢
  have hMx : M ≤ 9223372036854775807 := by unfold Go.maxLen at hcm; omega
  replace hM := Lib.hid hM
  replace h := Lib.hid h
  go_enter Tryz.func10, Tryz.ntmps10
  go_wp2
  go_loopw [5] (fun iv wr => ∃ k : Nat, iv = .int .i64 k ∧ k ≤ M ∧ Hid (∀ j (hj : j < L.length), j < k → L[j].S.length ≤ 4 ∧ L[j].a.ins.length ≤ 4) ∧ Hid (Keeps [] w wr)) (fun iv _ => M - (intOf iv).toNat)
  case atStart => exact ⟨0, rfl, by omega, Lib.hid (fun _ _ h => by omega), Lib.hid (Keeps.refl _ _)⟩
  case round =>
    obtain ⟨k, rfl, hk, hno, hkw⟩ := hrel
    by_cases hlt : k < M
    · have hk2 : k < L.length := by rw [hM.out]; exact hlt
      have hlt2 : (k : Int) < M := by omega
      obtain ⟨g, o, d, s, x, hv, hS, hI, hF, e0, e1, e2, e3, e4, e5, e6, e7, e8, e9, e10, e11, e12, e13⟩ := (h.out.keeps hkw.out).elem hk2
      rw [hM.out] at hv
      cases hv
      obtain ⟨a1, c1, hv1, _⟩ := hI.ins.form
      obtain ⟨a2, c2, hv2⟩ := hS.form
      obtain ⟨N1, hN1⟩ : ∃ n, L[k].a.ins.length = n := ⟨_, rfl⟩
      obtain ⟨N2, hN2⟩ : ∃ n, L[k].S.length = n := ⟨_, rfl⟩
      rw [hv1, hN1] at e11
      rw [hv2, hN2] at e3
      have hgl := lt_of_cell e11
      replace hN1 := Lib.hid hN1
      replace hN2 := Lib.hid hN2
      clear hI hF hS e0 e1 e2 e4 e5 e6 e7 e8 e9 e10 e12 e13 hv1 hv2
      by_cases h6 : 4 < N2
      · have h62 : (4 : Int) < N2 := by omega
        have hfalse : few5 L mo = false := by
          unfold few5
          rw [Bool.and_eq_false_iff]
          left
          rw [List.all_eq_false]
          exact ⟨L[k], List.getElem_mem hk2, by simp; intro; have := hN2.out; omega⟩
        replace hfalse := Lib.hid hfalse
        go_wp2
        go_ret
        exact ⟨by rw [hfalse.out]; rfl, hkw.out⟩
      · have h62 : decide ((4 : Int) < N2) = false := by simp; omega
        by_cases h5 : 4 < N1
        · have h52 : (4 : Int) < N1 := by omega
          have hfalse : few5 L mo = false := by
            unfold few5
            rw [Bool.and_eq_false_iff]
            left
            rw [List.all_eq_false]
            exact ⟨L[k], List.getElem_mem hk2, by simp; intro; have := hN1.out; omega⟩
          replace hfalse := Lib.hid hfalse
          go_wp2
          go_ret
          exact ⟨by rw [hfalse.out]; rfl, hkw.out⟩
        · have h52 : decide ((4 : Int) < N1) = false := by simp; omega
          have hno2 : Hid (∀ j (hj : j < L.length), j < k + 1 → L[j].S.length ≤ 4 ∧ L[j].a.ins.length ≤ 4) := Lib.hid (fun j hj hl => by
            by_cases e : j = k
            · subst e; have := hN1.out; have := hN2.out; omega
            · exact hno.out j hj (by omega))
          go_wp2
          go_roundw
          case rel => exact ⟨k + 1, rfl, by omega, hno2, hkw⟩
          case measure => simp [intOf]; omega
    · have hkM : k = M := by omega
      have hlt2 : decide ((k : Int) < M) = false := by simp; omega
      have hfb : few5 L mo = decide ((M : Int) ≤ mo) := by
        unfold few5
        have h1 : (L.all fun o => decide (o.S.length ≤ 4) && decide (o.a.ins.length ≤ 4)) = true := by
          rw [List.all_eq_true]
          intro o ho
          obtain ⟨j, hj, rfl⟩ := List.mem_iff_getElem.1 ho
          have := hno.out j hj (by rw [hM.out] at hj; omega)
          simp [this.1, this.2]
        rw [h1, Bool.true_and, hM.out]
      replace hkM := Lib.hid hkM
      replace hfb := Lib.hid hfb
      clear hno
      go_wp2
      go_ret
      exact ⟨by rw [hfb.out]; rfl, hkw.out⟩
end Go.Proofs.YtpobepninifenaaGreat

namespace Go.Proofs.YtpobepninifenaaGreat
open Go.RowKit
def PendPost (w : World) (t : Tr) (m : Int) (e : Ending) (w' : World) : Prop :=
  ∃ r : Int, e = .returned (.int .i64 r) ∧ Keeps [] w w' ∧ ((t.state ≠ 1 ∧ r = 9) ∨ (t.state = 1 ∧ ∃ P Y p, SortedA t Y ∧ ClaimsP t Y P ∧ P[t.ag.length]? = some p ∧ r = (if p.m = m then 0 else 1)))
set_option maxRecDepth 100000 in
set_option maxHeartbeats 4000000 in
theorem pending_c (w : World) (B bt bm : Nat) (vo vh vg : Value) (t : Tr) (m : Int) (h : TrM w B bt bm vo vh vg t) (hl : t.qs.length ≤ 1000) (hag : t.state = 1 → ∀ P Y, SortedA t Y → ClaimsP t Y P → t.ag.length < P.length) :
    Calls Tryz.prog 81 #[.pointer (some ⟨bt, 0, none⟩), .int .i64 m] w (PendPost w t m) := by
  have hc := claim_c w B bt bm vo vh vg t h hl hag
  replace hc := Lib.hid hc
  clear h hag
  go_enter Tryz.func81, Tryz.ntmps81
  go_wp2_with fail
  refine hc.out.mono ?_
  rintro e w1 ⟨⟨x0, x1, ⟨a1, a2, a3⟩, ⟨b1, b2, b3⟩, ⟨c1, c2, c3⟩⟩, p, rfl, hcr, hk, hcase⟩
  have hx : x0 = p.m := hcr.m
  subst hx
  simp only [clV, slv]
  replace hk := Lib.hid hk
  clear hcr
  by_cases hs : t.state = 1
  · have b : (t.state == 1) = true := by simpa using hs
    have hcase2 : ∃ P Y, SortedA t Y ∧ ClaimsP t Y P ∧ P[t.ag.length]? = some p := by
      rcases hcase with ⟨h1, _⟩ | ⟨_, h2⟩
      · exact absurd hs h1
      · exact h2
    rw [b]
    replace hcase2 := Lib.hid hcase2
    replace hs := Lib.hid hs
    clear hcase b
    by_cases hm : p.m = m
    · subst hm
      go_wp2
      go_ret
      obtain ⟨P, Y, h1, h2, h3⟩ := hcase2.out
      exact ⟨0, rfl, hk.out.alloc _, .inr ⟨hs.out, P, Y, p, h1, h2, h3, (if_pos rfl).symm⟩⟩
    · have bm : (p.m != m) = true := by simpa using hm
      go_wp2
      go_ret
      obtain ⟨P, Y, h1, h2, h3⟩ := hcase2.out
      exact ⟨1, rfl, hk.out.alloc _, .inr ⟨hs.out, P, Y, p, h1, h2, h3, (if_neg hm).symm⟩⟩
  · have b : (t.state == 1) = false := by simpa using hs
    rw [b]
    replace hs := Lib.hid hs
    clear hcase b
    go_wp2
    go_ret
    exact ⟨9, rfl, hk.out.alloc _, .inl ⟨hs.out, rfl⟩⟩
end Go.Proofs.YtpobepninifenaaGreat

namespace Go.Proofs.YtpobepninifenaaGreat
open Go.RowKit
namespace TrM
variable {w : World} {B bt bm : Nat} {vo vh vg : Value} {t : Tr}
theorem setRf (h : TrM w B bt bm vo vh vg t) (b : Bool) : TrM (w.setCell ⟨bt, 11, none⟩ (.bool b)) B bt bm vo vh vg { t with rf := b } := by
  obtain ⟨h1, h2, h3, h4, h5, _⟩ := h.store 11 (.bool b)
  exact ⟨by simpa using h1, h2, h3, h4, h5, ⟨h.inv.ok, h.inv.nd, h.inv.rq, h.inv.rk, h.inv.hi, h.inv.ro⟩, h.bB⟩
end TrM
/-- What refusing leaves. -/
def RefPost (w : World) (B bt bm : Nat) (vo vh vg : Value) (t : Tr) (m : Int) (e : Ending) (w' : World) : Prop :=
  ∃ (r : Int) (t' : Tr), e = .returned (.int .i64 r) ∧ TrM w' B bt bm vo vh vg t' ∧ Mv (ownT bt bm vo vh vg) (ownT bt bm vo vh vg) w w' ∧
    ((t.state ≠ 1 ∧ r = 9 ∧ t' = t) ∨ (t.state = 1 ∧ ∃ P Y p, SortedA t Y ∧ ClaimsP t Y P ∧ P[t.ag.length]? = some p ∧ ((p.m ≠ m ∧ r = 1 ∧ t' = t) ∨ (p.m = m ∧ r = 0 ∧ t' = { t with state := 4, rf := true }))))
set_option maxRecDepth 100000 in
set_option maxHeartbeats 4000000 in
theorem refuse_c (w : World) (B bt bm : Nat) (vo vh vg : Value) (t : Tr) (m : Int) (h : TrM w B bt bm vo vh vg t) (hl : t.qs.length ≤ 1000) (hag : t.state = 1 → ∀ P Y, SortedA t Y → ClaimsP t Y P → t.ag.length < P.length) :
    Calls Tryz.prog 41 #[.pointer (some ⟨bt, 0, none⟩), .int .i64 m] w (RefPost w B bt bm vo vh vg t m) := by
  have hc := pending_c w B bt bm vo vh vg t m h hl hag
  replace hc := Lib.hid hc
  replace h := Lib.hid h
  clear hag
  go_enter Tryz.func41, Tryz.ntmps41
  go_wp2_with fail
  refine hc.out.mono ?_
  rintro e w1 ⟨r, rfl, hk, hcase⟩
  have hT := h.out.keeps hk
  by_cases hr : r = 0
  · have hc2 : t.state = 1 ∧ ∃ P Y p, SortedA t Y ∧ ClaimsP t Y P ∧ P[t.ag.length]? = some p ∧ p.m = m := by
      rcases hcase with ⟨_, h2⟩ | ⟨h1, P, Y, p, h2, h3, h4, h5⟩
      · omega
      · refine ⟨h1, P, Y, p, h2, h3, h4, ?_⟩
        by_cases e : p.m = m
        · exact e
        · rw [if_neg e] at h5; omega
    subst hr
    obtain ⟨d0, d1, d2, d3, d4, d5, d6, d7, d8, d9, d10, d11⟩ := hT.cells
    have hfr := hT.free
    have hlt := hT.lt.1
    replace hT := Lib.hid hT
    replace hk := Lib.hid hk
    replace hc2 := Lib.hid hc2
    clear hcase d0 d1 d2 d3 d4 d5 d6 d7 d8 d10
    go_wp2
    go_ret
    obtain ⟨h1, P, Y, p, h2, h3, h4, h5⟩ := hc2.out
    exact ⟨0, _, rfl, (hT.out.setState 4).setRf true, ((Mv.nil hk.out).trans (hT.out.mvSet 9 _)).trans ((hT.out.setState 4).mvSet 11 _), .inr ⟨h1, P, Y, p, h2, h3, h4, .inr ⟨h5, rfl, rfl⟩⟩⟩
  · have br : (r != 0) = true := by simpa using hr
    have hc2 : (t.state ≠ 1 ∧ r = 9) ∨ (t.state = 1 ∧ ∃ P Y p, SortedA t Y ∧ ClaimsP t Y P ∧ P[t.ag.length]? = some p ∧ p.m ≠ m ∧ r = 1) := by
      rcases hcase with h2 | ⟨h1, P, Y, p, h2, h3, h4, h5⟩
      · exact .inl h2
      · refine .inr ⟨h1, P, Y, p, h2, h3, h4, ?_⟩
        by_cases e : p.m = m
        · rw [if_pos e] at h5; exact absurd h5 hr
        · rw [if_neg e] at h5; exact ⟨e, h5⟩
    replace hT := Lib.hid hT
    replace hk := Lib.hid hk
    replace hc2 := Lib.hid hc2
    clear hcase
    go_wp2
    go_ret
    refine ⟨r, t, rfl, hT.out, Mv.nil hk.out, ?_⟩
    rcases hc2.out with ⟨h1, h2⟩ | ⟨h1, P, Y, p, h2, h3, h4, h5, h6⟩
    · exact .inl ⟨h1, h2, rfl⟩
    · exact .inr ⟨h1, P, Y, p, h2, h3, h4, .inl ⟨h5, h6, rfl⟩⟩
end Go.Proofs.YtpobepninifenaaGreat
