/- Texts that the laws lean on, in the order in which they build. The specification's trace: its value, what it says; New, answered, index. The specification's New and Queries. An element of eight cells is stored into an owned list. The lists of the specification's Answer: an answer recorded, a question opened; answers and history. The specification's sorted answers and claims: plain. The specification's less, lastUse, out. append(append(append([]E{}, ..), x), ..) in one region that draws its order: the facts of its operations. Of whatever program. -/
import Derived.Test.YthfdngjbcgkkfaaK8
import Derived.Laws.Rows
set_option linter.unusedVariables false
set_option linter.unusedSimpArgs false
namespace Go.Proofs.Ythfdngjbcgkkfaa
open Go.RowKit

structure RfV where
  im : Int
  is : Int
  s0 : Int
  s1 : Nat
  s2 : Int
  st : Int
  vo : Option Addr × Nat × Nat
  va : Option Addr × Nat × Nat
  told : Int
  vg : Option Addr × Nat × Nat
  rf : Bool
  vh : Option Addr × Nat × Nat
def RfV.cs (x : RfV) : List Value := [.int .i64 x.im, .int .i64 x.is, .int .i64 x.s0, .int .u64 x.s1, .int .i64 x.s2, .int .i64 x.st, slv x.vo, slv x.va, .int .i64 x.told, slv x.vg, .bool x.rf, slv x.vh]
def rfV (x : RfV) : Value := .agg #[.int .i64 x.im, .int .i64 x.is, .int .i64 x.s0, .int .u64 x.s1, .int .i64 x.s2, .int .i64 x.st, slv x.vo, slv x.va, .int .i64 x.told, slv x.vg, .bool x.rf, slv x.vh]
abbrev tR : Nat := 56
/-- A question as the specification's need. -/
def ndq (q : Qn) : T3 := (q.1, q.2.2, q.2.1)
theorem ndq_inj {p q : Qn} (h : ndq p = ndq q) : p = q := by
  obtain ⟨a, b, c⟩ := p
  obtain ⟨a', b', c'⟩ := q
  simp [ndq] at h
  obtain ⟨h1, h2, h3⟩ := h
  rw [h1, h2, h3]
def RA1 (w : World) (x : AnV) : Option Ans → Prop
  | some a => InA w x a
  | none => x.kn = false
theorem InR.keeps {w w' : World} {x : AnV} {y : Ans} (h : InR w x y) (hk : Keeps [] w w') : InR w' x y := h.keep hk (by simp)
theorem InA.r {w : World} {x : AnV} {y : Ans} (h : InA w x y) : InR w x y := ⟨h.m, h.ow, h.n, h.ep, h.kn, h.rt, h.lu, h.ins.r⟩
theorem RA1.keeps {w w' : World} {x : AnV} {u : Option Ans} (h : RA1 w x u) (hk : Keeps [] w w') : RA1 w' x u := by
  cases u with
  | some a => exact InA.ki h hk.ki0
  | none => exact h
def RA (w : World) (X : List AnV) (qs : Qs) : Prop := X.length = qs.length ∧ ∀ (k : Nat) (x : AnV) (p : Qn × Option Ans), X[k]? = some x → qs[k]? = some p → RA1 w x p.2
theorem RA.keeps {w w' : World} {X : List AnV} {qs : Qs} (h : RA w X qs) (hk : Keeps [] w w') : RA w' X qs := ⟨h.1, fun k x p h1 h2 => (h.2 k x p h1 h2).keeps hk⟩
def LRd (w : World) (X : List AnV) (Y : List Ans) : Prop := X.length = Y.length ∧ ∀ (k : Nat) (x : AnV) (y : Ans), X[k]? = some x → Y[k]? = some y → InR w x y
theorem LRd.keeps {w w' : World} {X : List AnV} {Y : List Ans} (h : LRd w X Y) (hk : Keeps [] w w') : LRd w' X Y := ⟨h.1, fun k x p h1 h2 => (h.2 k x p h1 h2).keeps hk⟩
/-- The value says this trace. -/
structure RfR (w : World) (x : RfV) (t : Tr) : Prop where
  im : x.im = t.im
  is : x.is = t.is
  s0 : x.s0 = t.st.1
  s1 : x.s1 = t.st.2.1
  s2 : x.s2 = t.st.2.2
  st : x.st = t.state
  told : x.told = t.told
  rf : x.rf = t.rf
  op : shT.R w (slv x.vo) (t.op.map ndq)
  an : ∃ X, shA.R w (slv x.va) X ∧ RA w X t.qs
  ag : shZ.R w (slv x.vg) t.ag
  hi : ∃ X, shA.R w (slv x.vh) X ∧ LA w X t.hist
theorem RfR.keeps {w w' : World} {x : RfV} {t : Tr} (h : RfR w x t) (hk : Keeps [] w w') : RfR w' x t := by
  obtain ⟨X, hX, hXR⟩ := h.an
  obtain ⟨Z, hZ, hZR⟩ := h.hi
  exact ⟨h.im, h.is, h.s0, h.s1, h.s2, h.st, h.told, h.rf, h.op.keeps hk, ⟨X, hX.keeps hk, hXR.keeps hk⟩, h.ag.keeps hk, ⟨Z, hZ.keeps hk, hZR.ki hk.ki0⟩⟩
/-- The blocks of a value's lists. -/
def blks (x : RfV) : List Nat := (slv x.vo).ownBlock.toList ++ ((slv x.va).ownBlock.toList ++ ((slv x.vg).ownBlock.toList ++ (slv x.vh).ownBlock.toList))
/-- The new value's lists lie where the old one's lay, or in new blocks. -/
def Fsh (w w' : World) (x x' : RfV) : Prop := ∀ b ∈ blks x', b ∈ blks x ∨ (w.heap.size ≤ b ∧ b < w'.heap.size)
theorem mem_blks {x : RfV} {b : Nat} : b ∈ blks x ↔ (slv x.vo).ownBlock = some b ∨ (slv x.va).ownBlock = some b ∨ (slv x.vg).ownBlock = some b ∨ (slv x.vh).ownBlock = some b := by simp [blks]
theorem cells12 {w : World} {b : Nat} {x0 x1 x2 x3 x4 x5 x6 x7 x8 x9 x10 x11 : Value} {t : TypeId} (h : w.heap[b]? = some (.cells #[x0, x1, x2, x3, x4, x5, x6, x7, x8, x9, x10, x11] t (0, 0))) :
    w.cell? ⟨b, 0, none⟩ = some x0 ∧ w.cell? ⟨b, 1, none⟩ = some x1 ∧ w.cell? ⟨b, 2, none⟩ = some x2 ∧ w.cell? ⟨b, 3, none⟩ = some x3 ∧ w.cell? ⟨b, 4, none⟩ = some x4 ∧ w.cell? ⟨b, 5, none⟩ = some x5 ∧ w.cell? ⟨b, 6, none⟩ = some x6 ∧ w.cell? ⟨b, 7, none⟩ = some x7 ∧
    w.cell? ⟨b, 8, none⟩ = some x8 ∧ w.cell? ⟨b, 9, none⟩ = some x9 ∧ w.cell? ⟨b, 10, none⟩ = some x10 ∧ w.cell? ⟨b, 11, none⟩ = some x11 ∧ (∀ o, w.frozen? ⟨b, o, none⟩ = false) ∧ b < w.heap.size := by
  refine ⟨?_, ?_, ?_, ?_, ?_, ?_, ?_, ?_, ?_, ?_, ?_, ?_, fun o => ?_, lt_of_blk h⟩ <;> simp [World.cell?, World.frozen?, h]
theorem RA.kn {w : World} {X : List AnV} {t : Tr} (h : RA w X t.qs) (hr : ∀ p ∈ t.rec', p.2.kn = true) {k : Nat} (hk : k < t.qs.length) : ∃ hx : k < X.length, X[k].kn = t.qs[k].2.isSome := by
  have hx : k < X.length := by rw [h.1]; exact hk
  refine ⟨hx, ?_⟩
  have h1 := h.2 k _ _ (List.getElem?_eq_getElem hx) (List.getElem?_eq_getElem hk)
  obtain ⟨⟨q, u⟩, hq⟩ : ∃ p, t.qs[k] = p := ⟨_, rfl⟩
  rw [hq] at h1 ⊢
  cases u with
  | none => exact h1
  | some a =>
    have h2 : InA w X[k] a := h1
    rw [h2.kn]
    exact hr (q, a) (recOf_keys.2 (hq ▸ List.getElem_mem hk))
set_option maxRecDepth 100000 in
set_option maxHeartbeats 2000000 in
theorem answeredR_c (w : World) (x : RfV) (t : Tr) (k : Nat) (h : RfR w x t) (hr : ∀ p ∈ t.rec', p.2.kn = true) (hk : k < t.qs.length) :
    Calls Try.prog 44 #[rfV x, .int .i64 k] w fun e w' => e = .returned (.bool t.qs[k].2.isSome) ∧ Keeps [] w w' := by
  obtain ⟨X, hX, hXR⟩ := h.an
  obtain ⟨hkX, hkn⟩ := hXR.kn hr hk
  obtain ⟨x0, x1, x2, x3, x4, x5, ⟨x6, x7, x8⟩, ⟨x9, x10, x11⟩, x12, ⟨x13, x14, x15⟩, x16, ⟨x17, x18, x19⟩⟩ := x
  simp only [slv] at hX
  obtain ⟨g, o, c, hv, he⟩ := hX.elem hkX
  obtain ⟨ax, cx, _, hl1, hl2, _⟩ := hX.form
  obtain ⟨M, hM⟩ : ∃ n, X.length = n := ⟨_, rfl⟩
  rw [hM] at hv hkX hl1
  cases hv
  have e4 := he 4 _ rfl
  simp only [shA] at e4
  rw [hkn] at e4
  have hltg := lt_of_cell e4
  obtain ⟨b, hb⟩ : ∃ b, t.qs[k].2.isSome = b := ⟨_, rfl⟩
  rw [hb] at e4 ⊢
  have hMm : x10 ≤ 9223372036854775807 := by unfold maxLen at hl2; omega
  have hkA : Keeps [] w (w.alloc (.cells #[.int .i64 x0, .int .i64 x1, .int .i64 x2, .int .u64 x3, .int .i64 x4, .int .i64 x5, .slice x6 x7 x8, (.slice (some ⟨g, o, none⟩) x10 x11), .int .i64 x12, .slice x13 x14 x15, .bool x16, .slice x17 x18 x19] tR)) := (Keeps.refl _ _).alloc _
  replace hkA := Lib.hid hkA
  replace hM := Lib.hid hM
  replace hb := Lib.hid hb
  replace hX := Lib.hid hX
  replace hXR := Lib.hid hXR
  clear h he hkn hr hl2
  simp only [rfV, slv]
  go_enter Try.func44, Try.ntmps44
  go_wp2
  go_ret
  exact ⟨rfl, hkA.out⟩
/-- Where a question lies. -/
def IdxPost (t : Tr) (q : Qn) (i : Int) : Prop := (∃ k : Nat, ∃ hk : k < t.qs.length, i = k ∧ t.qs[k].1 = q) ∨ (i = -1 ∧ q ∉ t.op)
set_option maxRecDepth 100000 in
set_option maxHeartbeats 2000000 in
theorem indexR_c (w : World) (x : RfV) (t : Tr) (q : Qn) (h : RfR w x t) :
    Calls Try.prog 78 #[rfV x, tV (ndq q)] w fun e w' => ∃ i : Int, e = .returned (.int .i64 i) ∧ IdxPost t q i ∧ Keeps [] w w' := by
  have hO := h.op
  obtain ⟨x0, x1, x2, x3, x4, x5, ⟨x6, x7, x8⟩, ⟨x9, x10, x11⟩, x12, ⟨x13, x14, x15⟩, x16, ⟨x17, x18, x19⟩⟩ := x
  simp only [slv] at hO
  obtain ⟨a, c, hv, hl1, hl2, _⟩ := hO.form
  have hel := fun k hk => hO.elem (k := k) hk
  obtain ⟨M, hM⟩ : ∃ n, (t.op.map ndq).length = n := ⟨_, rfl⟩
  have hMq : t.qs.length = M := by rw [← hM]; simp [Tr.op]
  rw [hM] at hv hl1
  cases hv
  have hMm : x7 ≤ 9223372036854775807 := by unfold maxLen at hl2; omega
  obtain ⟨q0, q1, q2⟩ := q
  have hb1 := heap_alloc_new (w.alloc (.cells #[.int .i64 x0, .int .i64 x1, .int .i64 x2, .int .u64 x3, .int .i64 x4, .int .i64 x5, .slice x6 x7 x8, .slice x9 x10 x11, .int .i64 x12, .slice x13 x14 x15, .bool x16, .slice x17 x18 x19] tR)) (.cells #[.int .i64 q0, .int .u64 q2, .int .i64 q1] tN)
  have hb0 := ((Keeps.refl [] (w.alloc (.cells #[.int .i64 x0, .int .i64 x1, .int .i64 x2, .int .u64 x3, .int .i64 x4, .int .i64 x5, .slice x6 x7 x8, .slice x9 x10 x11, .int .i64 x12, .slice x13 x14 x15, .bool x16, .slice x17 x18 x19] tR))).alloc (.cells #[.int .i64 q0, .int .u64 q2, .int .i64 q1] tN)).block _ (by simp) (by simp) |>.trans (heap_alloc_new w (.cells #[.int .i64 x0, .int .i64 x1, .int .i64 x2, .int .u64 x3, .int .i64 x4, .int .i64 x5, .slice x6 x7 x8, .slice x9 x10 x11, .int .i64 x12, .slice x13 x14 x15, .bool x16, .slice x17 x18 x19] tR))
  have hkA : Keeps [] w ((w.alloc (.cells #[.int .i64 x0, .int .i64 x1, .int .i64 x2, .int .u64 x3, .int .i64 x4, .int .i64 x5, .slice x6 x7 x8, .slice x9 x10 x11, .int .i64 x12, .slice x13 x14 x15, .bool x16, .slice x17 x18 x19] tR)).alloc (.cells #[.int .i64 q0, .int .u64 q2, .int .i64 q1] tN)) := ((Keeps.refl _ _).alloc _).alloc _
  rw [show (w.alloc (.cells #[.int .i64 x0, .int .i64 x1, .int .i64 x2, .int .u64 x3, .int .i64 x4, .int .i64 x5, .slice x6 x7 x8, .slice x9 x10 x11, .int .i64 x12, .slice x13 x14 x15, .bool x16, .slice x17 x18 x19] tR)).heap.size = w.heap.size + 1 by simp] at hb1
  replace hb0 := Lib.hid hb0
  replace hb1 := Lib.hid hb1
  replace hkA := Lib.hid hkA
  replace hel := Lib.hid hel
  replace hM := Lib.hid hM
  replace hMq := Lib.hid hMq
  clear h hO hl2
  simp only [rfV, slv, ndq, tV]
  go_enter Try.func78, Try.ntmps78
  go_wp2
  generalize ((w.alloc (.cells #[.int .i64 x0, .int .i64 x1, .int .i64 x2, .int .u64 x3, .int .i64 x4, .int .i64 x5, .slice x6 x7 x8, .slice x9 x10 x11, .int .i64 x12, .slice x13 x14 x15, .bool x16, .slice x17 x18 x19] tR)).alloc (.cells #[.int .i64 q0, .int .u64 q2, .int .i64 q1] tN)) = W at *
  go_loopw [5] (fun i wr => ∃ k : Nat, i = .int .i64 k ∧ k ≤ x7 ∧ Hid (∀ j (hj : j < t.qs.length), j < k → t.qs[j].1 ≠ (q0, q1, q2)) ∧ Hid (Keeps [] W wr)) (fun i _ => x7 - (intOf i).toNat)
  case atStart => exact ⟨0, rfl, by omega, Lib.hid (fun _ _ h => by omega), Lib.hid (Keeps.refl _ _)⟩
  case round =>
    obtain ⟨k, rfl, hk, hno, hkr⟩ := hrel
    have hbr := (hkr.out.block _ (lt_of_blk hb0.out) (by simp)).trans hb0.out
    obtain ⟨y0, y1, y2⟩ := cells3t ((hkr.out.block _ (lt_of_blk hb1.out) (by simp)).trans hb1.out)
    have y6 := (cells12 hbr).2.2.2.2.2.2.1
    have hkw := hkA.out.trans hkr.out
    replace hkw := Lib.hid hkw
    clear hbr
    by_cases hlt : k < x7
    · have hkq : k < t.qs.length := by rw [hMq.out]; exact hlt
      obtain ⟨g, o, c', hv, he⟩ := hel.out k (by rw [hM.out]; exact hlt)
      rw [hM.out] at hv
      cases hv
      obtain ⟨⟨⟨p0, p1, p2⟩, pu⟩, hp⟩ : ∃ p, t.qs[k] = p := ⟨_, rfl⟩
      have hpe : (t.op.map ndq)[k]'(by rw [hM.out]; exact hlt) = (p0, p2, p1) := by simp [Tr.op, hp, ndq]
      rw [hpe] at he
      have e0 := hkw.out.val (he 0 _ rfl)
      have e1 := hkw.out.val (he 1 _ rfl)
      have e2 := hkw.out.val (he 2 _ rfl)
      simp only [shT, Nat.add_zero] at e0 e1 e2
      have hq := fun w => eqN w (p0, p2, p1) (q0, q2, q1)
      simp only [tV] at hq
      replace hp := Lib.hid hp
      clear he hpe
      by_cases hx : (p0, p2, p1) = (q0, q2, q1)
      · rw [decide_eq_true hx] at hq
        replace hx := Lib.hid hx
        go_wp2
        (refine wp_region_quiet_lit (by kernel_rfl) (by kernel_rfl) ?_; (repeat (first | go_big_quiet_step (fail) | quiet_step (fail))); with_reducible refine wpQuiet_nil ?_; intro _ hw'; obtain ⟨nq, hw''⟩ := hw'; subst hw'')
        go_wp2
        go_ret
        refine ⟨k, rfl, .inl ⟨k, hkq, rfl, ?_⟩, hkw.out.drewN _⟩
        have := hx.out
        simp only [Prod.mk.injEq] at this
        rw [hp.out, this.1, this.2.1, this.2.2]
      · rw [decide_eq_false hx] at hq
        have hno2 : ∀ j (hj : j < t.qs.length), j < k + 1 → t.qs[j].1 ≠ (q0, q1, q2) := fun j hj hjk => by
          by_cases e : j = k
          · subst e
            rw [hp.out]
            intro e2
            simp only [Prod.mk.injEq] at e2
            exact hx (by rw [e2.1, e2.2.1, e2.2.2])
          · exact hno.out j hj (by omega)
        replace hno2 := Lib.hid hno2
        replace hx := Lib.hid hx
        go_wp2
        (refine wp_region_quiet_lit (by kernel_rfl) (by kernel_rfl) ?_; (repeat (first | go_big_quiet_step (fail) | quiet_step (fail))); with_reducible refine wpQuiet_nil ?_; intro _ hw'; obtain ⟨nq, hw''⟩ := hw'; subst hw'')
        go_wp2
        go_roundw
        case rel => exact ⟨k + 1, rfl, by omega, hno2, Lib.hid (hkr.out.drewN _)⟩
        case measure => simp [intOf]; omega
    · go_wp2
      go_ret
      exact ⟨-1, rfl, .inr ⟨rfl, fun hm => by
        obtain ⟨p, hp, e⟩ := List.mem_map.1 hm
        obtain ⟨j, hj, rfl⟩ := List.mem_iff_getElem.1 hp
        exact hno.out j hj (by rw [hMq.out] at hj; omega) e⟩, hkw.out⟩
end Go.Proofs.Ythfdngjbcgkkfaa

namespace Go.Proofs.Ythfdngjbcgkkfaa
open Go.RowKit

theorem sizeR : (Try.prog.info? tR).map (·.size) = some 12 := by kernel_rfl
theorem load_rf (w : World) (g : Nat) (t : TypeId) (x0 x1 x2 x3 x4 x5 x6 x7 x8 x9 x10 x11 : Value) (f : Nat × Nat) (hg : w.heap[g]? = some (.cells #[x0, x1, x2, x3, x4, x5, x6, x7, x8, x9, x10, x11] t f)) : (loadVar tR ⟨g, 0, none⟩).run Try.prog w = .ok (.agg #[x0, x1, x2, x3, x4, x5, x6, x7, x8, x9, x10, x11]) w :=
  run_loadVar_row w g t tR #[x0, x1, x2, x3, x4, x5, x6, x7, x8, x9, x10, x11] f _ hg Try.underlying56 rfl sizeR
theorem results_rf {fn : Func} {p u : Tmp} (h : fn.results = #[.cell p tR, .tmp u]) (tmps : Array Value) (w : World) (g : Nat) (t : TypeId) (x0 x1 x2 x3 x4 x5 x6 x7 x8 x9 x10 x11 : Value) (f : Nat × Nat) (hp : tmps.getD p undef = .pointer (some ⟨g, 0, none⟩))
    (hg : w.heap[g]? = some (.cells #[x0, x1, x2, x3, x4, x5, x6, x7, x8, x9, x10, x11] t f)) : (results fn tmps).run Try.prog w = .ok (.tuple #[.agg #[x0, x1, x2, x3, x4, x5, x6, x7, x8, x9, x10, x11], tmps.getD u undef]) w := by
  have hp' : tmps[p]?.getD undef = .pointer (some ⟨g, 0, none⟩) := by simpa using hp
  simp [results, h, hp', asAddr, load_rf w g t x0 x1 x2 x3 x4 x5 x6 x7 x8 x9 x10 x11 f hg]
/-- Twelve cells are stored. -/
theorem st12 {w : World} {X : Nat} {t : TypeId} {x0 x1 x2 x3 x4 x5 x6 x7 x8 x9 x10 x11 u0 u1 u2 u3 u4 u5 u6 u7 u8 u9 u10 u11 : Value} (h2 : w.heap[X]? = some (.cells #[u0, u1, u2, u3, u4, u5, u6, u7, u8, u9, u10, u11] t (0, 0))) :
    ((((((((((((w.setCell ⟨X, 0, none⟩ x0).setCell ⟨X, 1, none⟩ x1).setCell ⟨X, 2, none⟩ x2).setCell ⟨X, 3, none⟩ x3).setCell ⟨X, 4, none⟩ x4).setCell ⟨X, 5, none⟩ x5).setCell ⟨X, 6, none⟩ x6).setCell ⟨X, 7, none⟩ x7).setCell ⟨X, 8, none⟩ x8).setCell ⟨X, 9, none⟩ x9).setCell ⟨X, 10, none⟩ x10).setCell ⟨X, 11, none⟩ x11).heap[X]? = some (.cells #[x0, x1, x2, x3, x4, x5, x6, x7, x8, x9, x10, x11] t (0, 0)) ∧
    Keeps [X] w ((((((((((((w.setCell ⟨X, 0, none⟩ x0).setCell ⟨X, 1, none⟩ x1).setCell ⟨X, 2, none⟩ x2).setCell ⟨X, 3, none⟩ x3).setCell ⟨X, 4, none⟩ x4).setCell ⟨X, 5, none⟩ x5).setCell ⟨X, 6, none⟩ x6).setCell ⟨X, 7, none⟩ x7).setCell ⟨X, 8, none⟩ x8).setCell ⟨X, 9, none⟩ x9).setCell ⟨X, 10, none⟩ x10).setCell ⟨X, 11, none⟩ x11) := by
  have hk : Keeps [X] w ((((((((((((w.setCell ⟨X, 0, none⟩ x0).setCell ⟨X, 1, none⟩ x1).setCell ⟨X, 2, none⟩ x2).setCell ⟨X, 3, none⟩ x3).setCell ⟨X, 4, none⟩ x4).setCell ⟨X, 5, none⟩ x5).setCell ⟨X, 6, none⟩ x6).setCell ⟨X, 7, none⟩ x7).setCell ⟨X, 8, none⟩ x8).setCell ⟨X, 9, none⟩ x9).setCell ⟨X, 10, none⟩ x10).setCell ⟨X, 11, none⟩ x11) := by
    refine ((((((((((((Keeps.refl _ w).setCell ?_ _).setCell ?_ _).setCell ?_ _).setCell ?_ _).setCell ?_ _).setCell ?_ _).setCell ?_ _).setCell ?_ _).setCell ?_ _).setCell ?_ _).setCell ?_ _).setCell ?_ _ <;> exact .inr (by simp)
  refine ⟨?_, hk⟩
  clear hk
  have s1 := setCs h2 0 x0
  generalize w.setCell ⟨X, 0, none⟩ x0 = w1 at s1 ⊢
  have s2 := setCs s1 1 x1
  generalize w1.setCell ⟨X, 1, none⟩ x1 = w2 at s2 ⊢
  have s3 := setCs s2 2 x2
  generalize w2.setCell ⟨X, 2, none⟩ x2 = w3 at s3 ⊢
  have s4 := setCs s3 3 x3
  generalize w3.setCell ⟨X, 3, none⟩ x3 = w4 at s4 ⊢
  have s5 := setCs s4 4 x4
  generalize w4.setCell ⟨X, 4, none⟩ x4 = w5 at s5 ⊢
  have s6 := setCs s5 5 x5
  generalize w5.setCell ⟨X, 5, none⟩ x5 = w6 at s6 ⊢
  have s7 := setCs s6 6 x6
  generalize w6.setCell ⟨X, 6, none⟩ x6 = w7 at s7 ⊢
  have s8 := setCs s7 7 x7
  generalize w7.setCell ⟨X, 7, none⟩ x7 = w8 at s8 ⊢
  have s9 := setCs s8 8 x8
  generalize w8.setCell ⟨X, 8, none⟩ x8 = w9 at s9 ⊢
  have s10 := setCs s9 9 x9
  generalize w9.setCell ⟨X, 9, none⟩ x9 = w10 at s10 ⊢
  have s11 := setCs s10 10 x10
  generalize w10.setCell ⟨X, 10, none⟩ x10 = w11 at s11 ⊢
  have s12 := setCs s11 11 x11
  simpa using s12
theorem shA_zero : shA.cf AnV.zero = [.int .i64 0, .int .i64 0, .int .u64 (0 : Nat), .int .i64 0, .bool false, .bool false, .int .i64 0, .slice none 0 0] := rfl
set_option maxRecDepth 100000 in
set_option maxHeartbeats 4000000 in
theorem newR_c (w : World) (im is : Int) (st : T3) :
    Calls Try.prog 19 #[idV im is, tV st] w fun e w' => ∃ x, e = .returned (rfV x) ∧ RfR w' x (Tr.new im is st) ∧ Keeps [] w w' ∧ ∀ b ∈ blks x, w.heap.size ≤ b ∧ b < w'.heap.size := by
  obtain ⟨s0, s1, s2⟩ := st
  go_enter Try.func19, Try.ntmps19
  go_wp2
  obtain ⟨w2, hw2⟩ : ∃ x, (w.alloc (.cells #[.int .i64 im, .int .i64 is] 23)).alloc (.cells #[.int .i64 s0, .int .u64 s1, .int .i64 s2] tN) = x := ⟨_, rfl⟩
  have hz2 : w2.heap.size = w.heap.size + 1 + 1 := by rw [← hw2]; simp
  have hk2 : Keeps [] w w2 := by rw [← hw2]; exact ((Keeps.refl _ _).alloc _).alloc _
  rw [hw2, ← hz2]
  have hb3 := heap_alloc_new w2 (.cells #[.int .i64 im, .int .i64 is, .int .i64 s0, .int .u64 s1, .int .i64 s2, .int .i64 0, .slice (some ⟨w2.heap.size + 1 + 1, 0, none⟩) 1 1, .slice (some ⟨w2.heap.size + 1 + 1 + 1, 0, none⟩) 1 1, .int .i64 0, .slice none 0 0, .bool false, .slice none 0 0] tR)
  have hk3 := hk2.alloc (.cells #[.int .i64 im, .int .i64 is, .int .i64 s0, .int .u64 s1, .int .i64 s2, .int .i64 0, .slice (some ⟨w2.heap.size + 1 + 1, 0, none⟩) 1 1, .slice (some ⟨w2.heap.size + 1 + 1 + 1, 0, none⟩) 1 1, .int .i64 0, .slice none 0 0, .bool false, .slice none 0 0] tR)
  obtain ⟨w3, hw3⟩ : ∃ x, w2.alloc (.cells #[.int .i64 im, .int .i64 is, .int .i64 s0, .int .u64 s1, .int .i64 s2, .int .i64 0, .slice (some ⟨w2.heap.size + 1 + 1, 0, none⟩) 1 1, .slice (some ⟨w2.heap.size + 1 + 1 + 1, 0, none⟩) 1 1, .int .i64 0, .slice none 0 0, .bool false, .slice none 0 0] tR) = x := ⟨_, rfl⟩
  have hz3 : w3.heap.size = w2.heap.size + 1 := by rw [← hw3]; simp
  rw [hw3] at hb3 hk3 ⊢
  obtain ⟨w4, hw4⟩ : ∃ x, w3.alloc (.cells #[.int .i64 im, .int .u64 s1, .int .i64 s0] tN) = x := ⟨_, rfl⟩
  have hz4 : w4.heap.size = w3.heap.size + 1 := by rw [← hw4]; simp
  have hk4 : Keeps [] w3 w4 := by rw [← hw4]; exact (Keeps.refl _ _).alloc _
  have hO := Sh.O.one shT w4 (im, s1, s0) #[.int .i64 im, .int .u64 s1, .int .i64 s0] tN 0 rfl (by omega)
  have hk5 := hk4.alloc (.cells #[.int .i64 im, .int .u64 s1, .int .i64 s0] tN)
  obtain ⟨w5, hw5⟩ : ∃ x, w4.alloc (.cells #[.int .i64 im, .int .u64 s1, .int .i64 s0] tN) = x := ⟨_, rfl⟩
  have hz5 : w5.heap.size = w4.heap.size + 1 := by rw [← hw5]; simp
  rw [hw5] at hO hk5
  have hA := Sh.O.one shA w5 AnV.zero #[.int .i64 0, .int .i64 0, .int .u64 (0 : Nat), .int .i64 0, .bool false, .bool false, .int .i64 0, .slice none 0 0] tA 0 rfl (by omega)
  have hk6 := hk5.alloc (.cells #[.int .i64 0, .int .i64 0, .int .u64 (0 : Nat), .int .i64 0, .bool false, .bool false, .int .i64 0, .slice none 0 0] tA)
  have hk56 : Keeps [] w5 _ := (Keeps.refl [] w5).alloc (.cells #[.int .i64 0, .int .i64 0, .int .u64 (0 : Nat), .int .i64 0, .bool false, .bool false, .int .i64 0, .slice none 0 0] tA)
  rw [show w4.heap.size = w2.heap.size + 1 + 1 by omega] at hO
  rw [show w5.heap.size = w2.heap.size + 1 + 1 + 1 by omega] at hA
  rw [show (w3.alloc (.cells #[.int .i64 im, .int .u64 s1, .int .i64 s0] 26)) = w4 from hw4, show (w4.alloc (.cells #[.int .i64 im, .int .u64 s1, .int .i64 s0] 26)) = w5 from hw5]
  refine bodyPost_ret (results_cell_row rfl _ _ _ _ _ _ _ rfl ((hk6.block _ (lt_of_blk hb3) (by simp)).trans hb3) Try.underlying56 rfl (by kernel_rfl)) ?_ ?_
  · rfl
  · refine ⟨⟨im, is, s0, s1, s2, 0, (some ⟨w2.heap.size + 1 + 1, 0, none⟩, 1, 1), (some ⟨w2.heap.size + 1 + 1 + 1, 0, none⟩, 1, 1), 0, (none, 0, 0), false, (none, 0, 0)⟩, rfl, ⟨rfl, rfl, rfl, rfl, rfl, rfl, rfl, rfl, hO.r.keeps hk56, ⟨[AnV.zero], hA.r, rfl, fun k x p h1 h2 => ?_⟩, Sh.R.nil _ _, ⟨[], Sh.R.nil _ _, rfl, fun k x y h => by simp at h⟩⟩, hk3.trans hk6, fun b hb => ?_⟩
    cases k with
    | zero =>
      simp [Tr.new] at h1 h2
      subst h1 h2
      rfl
    | succ k => simp at h1
    have h1 := hO.lt
    have h2 := hA.lt
    have hs1 := hk3.size
    have hs2 := hk6.size
    simp [blks, Value.ownBlock] at hb
    rcases hb with rfl | rfl
    · have h3 := h1 _ rfl
      simp only at h3
      exact ⟨by omega, by simp; omega⟩
    · exact ⟨by omega, by simp; omega⟩
def QsRPost (w : World) (x0 : RfV) (r : Tr × List T3) (e : Ending) (w' : World) : Prop := ∃ x v, e = .returned (.tuple #[rfV x, v]) ∧ RfR w' x r.1 ∧ shT.O w' w.heap.size tN v r.2 ∧ Keeps [] w w' ∧ Fsh w w' x0 x
set_option maxRecDepth 100000 in
set_option maxHeartbeats 10000000 in
theorem queriesR_c (w : World) (x : RfV) (t : Tr) (tn : Nat) (h : RfR w x t) (hr : ∀ p ∈ t.rec', p.2.kn = true) (ht : t.told = tn) (htn : tn ≤ t.qs.length) (hl : t.qs.length ≤ 100000) :
    Calls Try.prog 37 #[rfV x] w (QsRPost w x t.queries) := by
  have hO := h.op
  have hst := h.st
  have htl := h.told
  have hkB0 : ∀ A : Obj, Keeps [] w (w.alloc A) := fun A => (Keeps.refl _ _).alloc _
  by_cases hs : t.state = 0
  case neg =>
    have hq : t.queries = (t, []) := by unfold Tr.queries; rw [if_pos hs]
    rw [hq]
    obtain ⟨x0, x1, x2, x3, x4, x5, ⟨x6, x7, x8⟩, ⟨x9, x10, x11⟩, x12, ⟨x13, x14, x15⟩, x16, ⟨x17, x18, x19⟩⟩ := x
    simp only [slv] at hst htl
    have hsb : (x5 != 0) = true := by rw [hst]; simpa using hs
    have hb1 := heap_alloc_new (w.alloc (.cells #[.int .i64 x0, .int .i64 x1, .int .i64 x2, .int .u64 x3, .int .i64 x4, .int .i64 x5, .slice x6 x7 x8, .slice x9 x10 x11, .int .i64 x12, .slice x13 x14 x15, .bool x16, .slice x17 x18 x19] tR)) (.cells #[.int .i64 x0, .int .i64 x1, .int .i64 x2, .int .u64 x3, .int .i64 x4, .int .i64 x5, .slice x6 x7 x8, .slice x9 x10 x11, .int .i64 x12, .slice x13 x14 x15, .bool x16, .slice x17 x18 x19] tR)
    rw [show (w.alloc (.cells #[.int .i64 x0, .int .i64 x1, .int .i64 x2, .int .u64 x3, .int .i64 x4, .int .i64 x5, .slice x6 x7 x8, .slice x9 x10 x11, .int .i64 x12, .slice x13 x14 x15, .bool x16, .slice x17 x18 x19] tR)).heap.size = w.heap.size + 1 by simp] at hb1
    have hkA : Keeps [] w (((w.alloc (.cells #[.int .i64 x0, .int .i64 x1, .int .i64 x2, .int .u64 x3, .int .i64 x4, .int .i64 x5, .slice x6 x7 x8, .slice x9 x10 x11, .int .i64 x12, .slice x13 x14 x15, .bool x16, .slice x17 x18 x19] tR)).alloc (.cells #[.int .i64 x0, .int .i64 x1, .int .i64 x2, .int .u64 x3, .int .i64 x4, .int .i64 x5, .slice x6 x7 x8, .slice x9 x10 x11, .int .i64 x12, .slice x13 x14 x15, .bool x16, .slice x17 x18 x19] tR)).alloc (.cells #[] tN)) := (((Keeps.refl _ _).alloc _).alloc _).alloc _
    have hb2 := ((Keeps.refl [] ((w.alloc (.cells #[.int .i64 x0, .int .i64 x1, .int .i64 x2, .int .u64 x3, .int .i64 x4, .int .i64 x5, .slice x6 x7 x8, .slice x9 x10 x11, .int .i64 x12, .slice x13 x14 x15, .bool x16, .slice x17 x18 x19] tR)).alloc (.cells #[.int .i64 x0, .int .i64 x1, .int .i64 x2, .int .u64 x3, .int .i64 x4, .int .i64 x5, .slice x6 x7 x8, .slice x9 x10 x11, .int .i64 x12, .slice x13 x14 x15, .bool x16, .slice x17 x18 x19] tR))).alloc (.cells #[] tN)).block _ (lt_of_blk hb1) (by simp) |>.trans hb1
    have hfr := Sh.O.fresh shT ((w.alloc (.cells #[.int .i64 x0, .int .i64 x1, .int .i64 x2, .int .u64 x3, .int .i64 x4, .int .i64 x5, .slice x6 x7 x8, .slice x9 x10 x11, .int .i64 x12, .slice x13 x14 x15, .bool x16, .slice x17 x18 x19] tR)).alloc (.cells #[.int .i64 x0, .int .i64 x1, .int .i64 x2, .int .u64 x3, .int .i64 x4, .int .i64 x5, .slice x6 x7 x8, .slice x9 x10 x11, .int .i64 x12, .slice x13 x14 x15, .bool x16, .slice x17 x18 x19] tR)) w.heap.size tN (by simp; omega)
    rw [show ((w.alloc (.cells #[.int .i64 x0, .int .i64 x1, .int .i64 x2, .int .u64 x3, .int .i64 x4, .int .i64 x5, .slice x6 x7 x8, .slice x9 x10 x11, .int .i64 x12, .slice x13 x14 x15, .bool x16, .slice x17 x18 x19] tR)).alloc (.cells #[.int .i64 x0, .int .i64 x1, .int .i64 x2, .int .u64 x3, .int .i64 x4, .int .i64 x5, .slice x6 x7 x8, .slice x9 x10 x11, .int .i64 x12, .slice x13 x14 x15, .bool x16, .slice x17 x18 x19] tR)).heap.size = w.heap.size + 1 + 1 by simp] at hfr
    replace h := Lib.hid h
    replace hkA := Lib.hid hkA
    replace hb2 := Lib.hid hb2
    replace hfr := Lib.hid hfr
    replace hs := Lib.hid hs
    clear hb1 hO hst htl hq
    simp only [rfV, slv]
    go_enter Try.func37, Try.ntmps37
    go_wp2
    refine bodyPost_ret (results_rf rfl _ _ _ _ _ _ _ _ _ _ _ _ _ _ _ _ _ rfl hb2.out) ?_ ?_
    · rfl
    · exact ⟨⟨x0, x1, x2, x3, x4, x5, (x6, x7, x8), (x9, x10, x11), x12, (x13, x14, x15), x16, (x17, x18, x19)⟩, _, rfl, h.out.keeps hkA.out, hfr.out, hkA.out, fun b hb => .inl hb⟩
  case pos =>
    have hq : t.queries = ({ t with told := t.qs.length }, (t.qs.drop tn).filterMap askOf) := by unfold Tr.queries; rw [if_neg (by simp [hs]), ht]; rfl
    rw [hq]
    have hel := fun k hk => hO.elem (k := k) hk
    have hans := fun (W : World) (hk : Keeps [] w W) (k : Nat) (hkq : k < t.qs.length) => answeredR_c W x t k (h.keeps hk) hr hkq
    obtain ⟨_, _, -, hl1, hl2, -⟩ := hO.form
    obtain ⟨x0, x1, x2, x3, x4, x5, ⟨x6, x7, x8⟩, ⟨x9, x10, x11⟩, x12, ⟨x13, x14, x15⟩, x16, ⟨x17, x18, x19⟩⟩ := x
    simp only [slv, rfV] at hst htl hel hans hO
    have hx7 : t.qs.length = x7 := by
      obtain ⟨_, _, e, _⟩ := hO.form
      simp only [Value.slice.injEq] at e
      rw [e.2.1]; simp [Tr.op]
    have hx12 : x12 = tn := by rw [htl, ht]
    have hx5 : x5 = 0 := by rw [hst, hs]
    subst hx12 hx5
    rw [hx7] at htn hl ⊢
    have hb1 := heap_alloc_new (w.alloc (.cells #[.int .i64 x0, .int .i64 x1, .int .i64 x2, .int .u64 x3, .int .i64 x4, .int .i64 0, .slice x6 x7 x8, .slice x9 x10 x11, .int .i64 tn, .slice x13 x14 x15, .bool x16, .slice x17 x18 x19] tR)) (.cells #[.int .i64 0, .int .i64 0, .int .i64 0, .int .u64 0, .int .i64 0, .int .i64 0, .slice none 0 0, .slice none 0 0, .int .i64 0, .slice none 0 0, .bool false, .slice none 0 0] tR)
    rw [show (w.alloc (.cells #[.int .i64 x0, .int .i64 x1, .int .i64 x2, .int .u64 x3, .int .i64 x4, .int .i64 0, .slice x6 x7 x8, .slice x9 x10 x11, .int .i64 tn, .slice x13 x14 x15, .bool x16, .slice x17 x18 x19] tR)).heap.size = w.heap.size + 1 by simp] at hb1
    have hkA : Keeps [] w (((w.alloc (.cells #[.int .i64 x0, .int .i64 x1, .int .i64 x2, .int .u64 x3, .int .i64 x4, .int .i64 0, .slice x6 x7 x8, .slice x9 x10 x11, .int .i64 tn, .slice x13 x14 x15, .bool x16, .slice x17 x18 x19] tR)).alloc (.cells #[.int .i64 0, .int .i64 0, .int .i64 0, .int .u64 0, .int .i64 0, .int .i64 0, .slice none 0 0, .slice none 0 0, .int .i64 0, .slice none 0 0, .bool false, .slice none 0 0] tR)).alloc (.cells #[] tN)) := (((Keeps.refl _ _).alloc _).alloc _).alloc _
    have hb2 := ((Keeps.refl [] ((w.alloc (.cells #[.int .i64 x0, .int .i64 x1, .int .i64 x2, .int .u64 x3, .int .i64 x4, .int .i64 0, .slice x6 x7 x8, .slice x9 x10 x11, .int .i64 tn, .slice x13 x14 x15, .bool x16, .slice x17 x18 x19] tR)).alloc (.cells #[.int .i64 0, .int .i64 0, .int .i64 0, .int .u64 0, .int .i64 0, .int .i64 0, .slice none 0 0, .slice none 0 0, .int .i64 0, .slice none 0 0, .bool false, .slice none 0 0] tR))).alloc (.cells #[] tN)).block _ (lt_of_blk hb1) (by simp) |>.trans hb1
    have hb3 := (((Keeps.refl [] (w.alloc (.cells #[.int .i64 x0, .int .i64 x1, .int .i64 x2, .int .u64 x3, .int .i64 x4, .int .i64 0, .slice x6 x7 x8, .slice x9 x10 x11, .int .i64 tn, .slice x13 x14 x15, .bool x16, .slice x17 x18 x19] tR))).alloc (.cells #[.int .i64 0, .int .i64 0, .int .i64 0, .int .u64 0, .int .i64 0, .int .i64 0, .slice none 0 0, .slice none 0 0, .int .i64 0, .slice none 0 0, .bool false, .slice none 0 0] tR)).alloc (.cells #[] tN)).block _ (by simp) (by simp) |>.trans (heap_alloc_new w (.cells #[.int .i64 x0, .int .i64 x1, .int .i64 x2, .int .u64 x3, .int .i64 x4, .int .i64 0, .slice x6 x7 x8, .slice x9 x10 x11, .int .i64 tn, .slice x13 x14 x15, .bool x16, .slice x17 x18 x19] tR))
    have hfr := Sh.O.fresh shT ((w.alloc (.cells #[.int .i64 x0, .int .i64 x1, .int .i64 x2, .int .u64 x3, .int .i64 x4, .int .i64 0, .slice x6 x7 x8, .slice x9 x10 x11, .int .i64 tn, .slice x13 x14 x15, .bool x16, .slice x17 x18 x19] tR)).alloc (.cells #[.int .i64 0, .int .i64 0, .int .i64 0, .int .u64 0, .int .i64 0, .int .i64 0, .slice none 0 0, .slice none 0 0, .int .i64 0, .slice none 0 0, .bool false, .slice none 0 0] tR)) w.heap.size tN (by simp; omega)
    rw [show ((w.alloc (.cells #[.int .i64 x0, .int .i64 x1, .int .i64 x2, .int .u64 x3, .int .i64 x4, .int .i64 0, .slice x6 x7 x8, .slice x9 x10 x11, .int .i64 tn, .slice x13 x14 x15, .bool x16, .slice x17 x18 x19] tR)).alloc (.cells #[.int .i64 0, .int .i64 0, .int .i64 0, .int .u64 0, .int .i64 0, .int .i64 0, .slice none 0 0, .slice none 0 0, .int .i64 0, .slice none 0 0, .bool false, .slice none 0 0] tR)).heap.size = w.heap.size + 1 + 1 by simp] at hfr
    replace h := Lib.hid h
    replace hkA := Lib.hid hkA
    replace hb2 := Lib.hid hb2
    replace hb3 := Lib.hid hb3
    replace hfr := Lib.hid hfr
    replace hel := Lib.hid hel
    replace hans := Lib.hid hans
    replace hs := Lib.hid hs
    replace hx7 := Lib.hid hx7
    replace hO := Lib.hid hO
    clear hb1 hst htl hq hkB0 hr
    simp only [rfV, slv]
    go_enter Try.func37, Try.ntmps37
    go_wp2
    generalize (((w.alloc (.cells #[.int .i64 x0, .int .i64 x1, .int .i64 x2, .int .u64 x3, .int .i64 x4, .int .i64 0, .slice x6 x7 x8, .slice x9 x10 x11, .int .i64 tn, .slice x13 x14 x15, .bool x16, .slice x17 x18 x19] tR)).alloc (.cells #[.int .i64 0, .int .i64 0, .int .i64 0, .int .u64 0, .int .i64 0, .int .i64 0, .slice none 0 0, .slice none 0 0, .int .i64 0, .slice none 0 0, .bool false, .slice none 0 0] tR)).alloc (.cells #[] tN)) = W at *
    go_loopw [4, 5] (fun ov i wr => ∃ k : Nat, i = .int .i64 k ∧ tn ≤ k ∧ k ≤ x7 ∧ Hid (shT.O wr w.heap.size tN ov (((t.qs.drop tn).take (k - tn)).filterMap askOf)) ∧ Hid (Keeps [] w wr) ∧ Hid (wr.heap[w.heap.size]? = some (.cells #[.int .i64 x0, .int .i64 x1, .int .i64 x2, .int .u64 x3, .int .i64 x4, .int .i64 0, .slice x6 x7 x8, .slice x9 x10 x11, .int .i64 tn, .slice x13 x14 x15, .bool x16, .slice x17 x18 x19] tR)) ∧ Hid (wr.heap[w.heap.size + 1]? = some (.cells #[.int .i64 0, .int .i64 0, .int .i64 0, .int .u64 0, .int .i64 0, .int .i64 0, .slice none 0 0, .slice none 0 0, .int .i64 0, .slice none 0 0, .bool false, .slice none 0 0] tR))) (fun _ i _ => x7 - (intOf i).toNat)
    case atStart => exact ⟨tn, rfl, by omega, by omega, by rw [Nat.sub_self]; exact hfr, hkA, hb3, hb2⟩
    case round =>
      obtain ⟨k, rfl, hk1, hk2, hOr, hkr, hbx, hbz⟩ := hrel
      obtain ⟨y0, y1, y2, y3, y4, y5, y6, y7, y8, y9, y10, y11, yf, yl⟩ := cells12 hbx.out
      by_cases hlt : k < x7
      · have hkq : k < t.qs.length := by rw [hx7.out]; exact hlt
        have hstep : ((t.qs.drop tn).take (k + 1 - tn)).filterMap askOf = ((t.qs.drop tn).take (k - tn)).filterMap askOf ++ (askOf t.qs[k]).toList := by
          have h1 := ask_step (t.qs.drop tn) (k - tn) (by simp; omega)
          rw [show k - tn + 1 = k + 1 - tn by omega] at h1
          rw [h1]
          congr 2
          simp [show tn + (k - tn) = k by omega]
        obtain ⟨⟨⟨p0, p1, p2⟩, pu⟩, hp⟩ : ∃ p, t.qs[k] = p := ⟨_, rfl⟩
        rw [hp] at hstep
        have hac := hans.out wr hkr.out k hkq
        rw [hp] at hac
        replace hac := Lib.hid hac
        cases pu with
        | some a =>
          have hstep2 : ((t.qs.drop tn).take (k + 1 - tn)).filterMap askOf = ((t.qs.drop tn).take (k - tn)).filterMap askOf := by rw [hstep]; simp [askOf]
          replace hstep2 := Lib.hid hstep2
          replace hp := Lib.hid hp
          clear hstep
          go_wp2_with fail
          refine hac.out.mono ?_
          rintro e w1 ⟨rfl, hka⟩
          have hO1 := hOr.out.keeps hka
          rw [← hstep2.out] at hO1
          have hk1w := hkr.out.trans hka
          have hbx1 := (hka.block _ (lt_of_blk hbx.out) (by simp)).trans hbx.out
          have hbz1 := (hka.block _ (lt_of_blk hbz.out) (by simp)).trans hbz.out
          replace hO1 := Lib.hid hO1
          replace hk1w := Lib.hid hk1w
          replace hbx1 := Lib.hid hbx1
          replace hbz1 := Lib.hid hbz1
          go_wp2
          go_roundw
          case rel => exact ⟨k + 1, rfl, by omega, by omega, hO1, hk1w, hbx1, hbz1⟩
          case measure => simp [intOf]; omega
        | none =>
          have hstep2 : ((t.qs.drop tn).take (k + 1 - tn)).filterMap askOf = ((t.qs.drop tn).take (k - tn)).filterMap askOf ++ [(p0, p2, p1)] := by rw [hstep]; simp [askOf]
          obtain ⟨L0, hL0⟩ : ∃ l, ((t.qs.drop tn).take (k - tn)).filterMap askOf = l := ⟨_, rfl⟩
          have hL0l : L0.length ≤ 100000 := by
            rw [← hL0]
            exact Nat.le_trans (List.length_filterMap_le _ _) (by simp; omega)
          rw [hL0] at hstep2 hOr
          obtain ⟨oa, oc, rfl⟩ := hOr.out.form
          obtain ⟨N0, hN0⟩ : ∃ n, L0.length = n := ⟨_, rfl⟩
          rw [hN0] at hOr hL0l ⊢
          obtain ⟨g, o, c', hv, he⟩ := hel.out k (by simp [Tr.op]; omega)
          have hpe : (t.op.map ndq)[k]'(by simp [Tr.op]; omega) = (p0, p2, p1) := by simp [Tr.op, hp, ndq]
          rw [hpe] at he
          rw [show (t.op.map ndq).length = x7 by simp [Tr.op]; exact hx7.out] at hv
          cases hv
          replace hstep2 := Lib.hid hstep2
          replace hp := Lib.hid hp
          replace hN0 := Lib.hid hN0
          clear hstep hpe
          go_wp2_with fail
          refine hac.out.mono ?_
          rintro e w1 ⟨rfl, hka⟩
          have hk1w := hkr.out.trans hka
          have hbx1 := (hka.block _ (lt_of_blk hbx.out) (by simp)).trans hbx.out
          obtain ⟨y0, y1, y2, y3, y4, y5, y6, y7, y8, y9, y10, y11, yf, yl⟩ := cells12 hbx1
          have hbz1 := (hka.block _ (lt_of_blk hbz.out) (by simp)).trans hbz.out
          have e0 := hk1w.val (he 0 _ rfl)
          have e1 := hk1w.val (he 1 _ rfl)
          have e2 := hk1w.val (he 2 _ rfl)
          simp only [shT, Nat.add_zero] at e0 e1 e2
          have hmade := Sh.R.made shT w1 [(p0, p2, p1)] #[.int .i64 p0, .int .u64 p2, .int .i64 p1] tN rfl (by simp [maxLen]) 1 rfl
          have hkM := (Keeps.refl [] w1).alloc (.cells #[.int .i64 p0, .int .u64 p2, .int .i64 p1] tN)
          have hOA := (hOr.out.keeps hka).keeps hkM
          have hkwM := hk1w.trans hkM
          have hsz := hkwM.size
          have hbxM := (hkM.block _ (lt_of_blk hbx1) (by simp)).trans hbx1
          have hbzM := (hkM.block _ (lt_of_blk hbz1) (by simp)).trans hbz1
          have hon : ∀ b, (Value.slice oa N0 oc).ownBlock = some b → b ≠ w.heap.size ∧ b ≠ w.heap.size + 1 := fun b hb => by
            obtain ⟨cs, hc⟩ := hOA.tag b hb
            refine ⟨fun e => ?_, fun e => ?_⟩
            · subst e; exact tag_ne hbxM hc (by decide) rfl
            · subst e; exact tag_ne hbzM hc (by decide) rfl
          replace hmade := Lib.hid hmade
          replace hOA := Lib.hid hOA
          replace hkwM := Lib.hid hkwM
          replace hbxM := Lib.hid hbxM
          replace hbzM := Lib.hid hbzM
          replace hbz1 := Lib.hid hbz1
          replace hbx1 := Lib.hid hbx1
          replace hon := Lib.hid hon
          clear he hkM hac
          go_wp2_with (at_builtin; (refine Sh.wpl_app shT w.heap.size infoN rfl Try.underlying42 (.slice oa N0 oc) (.slice (some ⟨w1.heap.size, 0, none⟩) 1 1) L0 [(p0, p2, p1)] rfl _ _ rfl rfl rfl hOA.out hmade.out (by rw [hN0.out]; simp; omega) hsz ?_; intro v5 w5 hO5 hG5; rw [← hstep2.out] at hO5; have hk5 := Sh.O.grew hkwM.out hOA.out hG5 (Nat.le_refl _); have hbx5 := (hG5.keepsO.block _ (lt_of_blk hbxM.out) (fun hm => (hon.out _ (by simpa using hm)).1 rfl)).trans hbxM.out; have hbz5 := (hG5.keepsO.block _ (lt_of_blk hbzM.out) (fun hm => (hon.out _ (by simpa using hm)).2 rfl)).trans hbzM.out; replace hO5 := Lib.hid hO5; replace hk5 := Lib.hid hk5; replace hbx5 := Lib.hid hbx5; replace hbz5 := Lib.hid hbz5; clear hG5))
          go_roundw
          case rel => exact ⟨k + 1, rfl, by omega, by omega, hO5, hk5, hbx5, hbz5⟩
          case measure => simp [intOf]; omega
      · have hkx : k = x7 := by omega
        subst hkx
        rw [show ((t.qs.drop tn).take (k - tn)) = t.qs.drop tn from List.take_of_length_le (by rw [List.length_drop, hx7.out]; omega)] at hOr
        obtain ⟨z0, z1, z2, z3, z4, z5, z6, z7, z8, z9, z10, z11, zf, zl⟩ := cells12 hbz.out
        have hks : Keeps [w.heap.size] wr (wr.setCell ⟨w.heap.size, 8, none⟩ (.int .i64 (k : Int))) := (Keeps.refl _ _).setCell (.inr (by simp)) _
        have hbzs := (hks.block _ (lt_of_blk hbz.out) (by simp)).trans hbz.out
        obtain ⟨s1, s2⟩ := st12 (x0 := .int .i64 x0) (x1 := .int .i64 x1) (x2 := .int .i64 x2) (x3 := .int .u64 x3) (x4 := .int .i64 x4) (x5 := .int .i64 0) (x6 := .slice x6 k x8) (x7 := .slice x9 x10 x11) (x8 := .int .i64 (k : Int)) (x9 := .slice x13 x14 x15) (x10 := .bool x16) (x11 := .slice x17 x18 x19) hbzs
        have hkf := (hkr.out.fresh hks (fun b hb => by simp at hb; subst hb; exact .inr (Nat.le_refl _))).fresh s2 (fun b hb => by simp at hb; subst hb; exact .inr (by omega))
        have hkO := (hks.mono (T := [w.heap.size, w.heap.size + 1]) (by simp)).trans (s2.mono (by simp))
        have hve := hOr.out.keepS hkO (fun b hb e => by
          obtain ⟨cs, hc⟩ := hOr.out.tag b e
          simp at hb
          rcases hb with rfl | rfl
          · exact tag_ne hbx.out hc (by decide) rfl
          · exact tag_ne hbz.out hc (by decide) rfl)
        have hRe := h.out.keeps hkf
        replace s1 := Lib.hid s1
        replace s2 := Lib.hid s2
        replace hkf := Lib.hid hkf
        replace hve := Lib.hid hve
        replace hRe := Lib.hid hRe
        clear hkO hks hbzs
        go_wp2
        refine bodyPost_ret (results_rf rfl _ _ _ _ _ _ _ _ _ _ _ _ _ _ _ _ _ rfl s1.out) ?_ ?_
        · rfl
        · have hE := hRe.out
          exact ⟨⟨x0, x1, x2, x3, x4, 0, (x6, k, x8), (x9, x10, x11), k, (x13, x14, x15), x16, (x17, x18, x19)⟩, _, rfl, ⟨hE.im, hE.is, hE.s0, hE.s1, hE.s2, hE.st, rfl, hE.rf, hE.op, hE.an, hE.ag, hE.hi⟩, hve.out, hkf.out, fun b hb => .inl hb⟩
end Go.Proofs.Ythfdngjbcgkkfaa

namespace Go.Proofs.Ythfdngjbcgkkfaa
open Go Go.RowKit

theorem ownsRow_set {w : World} {base e size n : Nat} {ys : List Value} {g cap : Nat} (h : w.ownsRow base e size (.slice (some ⟨g, 0, none⟩) n cap) n ys) (i : Nat) (c : Value) :
    (w.setCell ⟨g, i, none⟩ c).ownsRow base e size (.slice (some ⟨g, 0, none⟩) n cap) n (ys.set i c) := by
  obtain ⟨hl, h2⟩ := h
  rcases h2 with ⟨e, _⟩ | ⟨g', cap', cur, e, hb, hg, hle, hm, hsz, ht⟩
  · cases e
  · cases e
    refine ⟨by simpa using hl, .inr ⟨g, cap, cur.setIfInBounds i c, rfl, hb, setCs hg i c, hle, hm, by simpa using hsz, ?_⟩⟩
    rw [Array.toList_setIfInBounds, List.take_set, ht]
theorem set8_list {A C : List Value} {x0 x1 x2 x3 x4 x5 x6 x7 y0 y1 y2 y3 y4 y5 y6 y7 : Value} {m : Nat} (hm : A.length = m) :
    ((((((((A ++ ([x0, x1, x2, x3, x4, x5, x6, x7] ++ C)).set m y0).set (m + 1) y1).set (m + 2) y2).set (m + 3) y3).set (m + 4) y4).set (m + 5) y5).set (m + 6) y6).set (m + 7) y7 = A ++ ([y0, y1, y2, y3, y4, y5, y6, y7] ++ C) := by
  subst hm
  repeat rw [List.set_append_right (by omega)]
  simp
theorem cs_split (L : List AnV) (k : Nat) (hk : k < L.length) (y : AnV) : shA.cs L = shA.cs (L.take k) ++ (shA.cf L[k] ++ shA.cs (L.drop (k + 1))) ∧ shA.cs (L.set k y) = shA.cs (L.take k) ++ (shA.cf y ++ shA.cs (L.drop (k + 1))) := by
  refine ⟨?_, ?_⟩
  · have h : L = L.take k ++ (L[k] :: L.drop (k + 1)) := by rw [List.getElem_cons_drop, List.take_append_drop]
    rw [congrArg shA.cs h, Sh.cs_append]
    rfl
  · rw [List.set_eq_take_append_cons_drop, if_pos hk, Sh.cs_append]
    rfl
theorem O_set8 {w : World} {B e n c g : Nat} {L : List AnV} (h : shA.O w B e (.slice (some ⟨g, 0, none⟩) n c) L) (hn : L.length = n) (k : Nat) (hk : k < L.length) (y : AnV) :
    shA.O ((((((((w.setCell ⟨g, k * 8, none⟩ (.int .i64 y.m)).setCell ⟨g, k * 8 + 1, none⟩ (.int .i64 y.ow)).setCell ⟨g, k * 8 + 2, none⟩ (.int .u64 y.n)).setCell ⟨g, k * 8 + 3, none⟩ (.int .i64 y.ep)).setCell ⟨g, k * 8 + 4, none⟩ (.bool y.kn)).setCell ⟨g, k * 8 + 5, none⟩ (.bool y.rt)).setCell ⟨g, k * 8 + 6, none⟩ (.int .i64 y.lu)).setCell ⟨g, k * 8 + 7, none⟩ y.v) B e (.slice (some ⟨g, 0, none⟩) n c) (L.set k y) := by
  unfold Sh.O at h ⊢
  rw [hn] at h
  rw [List.length_set, hn]
  have h8 := ownsRow_set (ownsRow_set (ownsRow_set (ownsRow_set (ownsRow_set (ownsRow_set (ownsRow_set (ownsRow_set h (k * 8) (.int .i64 y.m)) (k * 8 + 1) (.int .i64 y.ow)) (k * 8 + 2) (.int .u64 y.n)) (k * 8 + 3) (.int .i64 y.ep)) (k * 8 + 4) (.bool y.kn)) (k * 8 + 5) (.bool y.rt)) (k * 8 + 6) (.int .i64 y.lu)) (k * 8 + 7) y.v
  obtain ⟨e1, e2⟩ := cs_split L k hk y
  have hA : (shA.cs (L.take k)).length = k * 8 := by
    rw [Sh.cs_len, List.length_take, Nat.min_eq_left (by omega)]
    rfl
  rw [e1, show shA.cf L[k] = [.int .i64 L[k].m, .int .i64 L[k].ow, .int .u64 L[k].n, .int .i64 L[k].ep, .bool L[k].kn, .bool L[k].rt, .int .i64 L[k].lu, L[k].v] from rfl, set8_list hA] at h8
  rw [e2]
  exact h8
theorem keeps8 (w : World) (g m : Nat) (x0 x1 x2 x3 x4 x5 x6 x7 : Value) : Keeps [g] w ((((((((w.setCell ⟨g, m, none⟩ x0).setCell ⟨g, m + 1, none⟩ x1).setCell ⟨g, m + 2, none⟩ x2).setCell ⟨g, m + 3, none⟩ x3).setCell ⟨g, m + 4, none⟩ x4).setCell ⟨g, m + 5, none⟩ x5).setCell ⟨g, m + 6, none⟩ x6).setCell ⟨g, m + 7, none⟩ x7) := by
  refine ((((((((Keeps.refl _ w).setCell ?_ _).setCell ?_ _).setCell ?_ _).setCell ?_ _).setCell ?_ _).setCell ?_ _).setCell ?_ _).setCell ?_ _ <;> exact .inr (by simp)
end Go.Proofs.Ythfdngjbcgkkfaa

namespace Go.Proofs.Ythfdngjbcgkkfaa
open Go.RowKit

theorem RA.set {w : World} {X : List AnV} {qs : Qs} {k : Nat} {y : AnV} {q : Qn} {a : Ans} (h : RA w X qs) (hy : InA w y a) : RA w (X.set k y) (qs.set k (q, some a)) := by
  obtain ⟨hl, hh⟩ := h
  refine ⟨by simp [hl], fun j u p hu hp => ?_⟩
  rw [List.getElem?_set] at hu hp
  by_cases hj : k = j
  · rw [if_pos hj] at hu hp
    split at hu
    · split at hp
      · cases hu; cases hp; exact hy
      · cases hp
    · cases hu
  · rw [if_neg hj] at hu hp
    exact hh j u p hu hp
theorem RA.open {w : World} {X : List AnV} {qs : Qs} {q : Qn} (h : RA w X qs) : RA w (X ++ [AnV.zero]) (qs ++ [(q, none)]) := by
  obtain ⟨hl, hh⟩ := h
  refine ⟨by simp [hl], fun j u p hu hp => ?_⟩
  by_cases hj : j < X.length
  · rw [List.getElem?_append_left hj] at hu
    rw [List.getElem?_append_left (by omega)] at hp
    exact hh j u p hu hp
  · rw [List.getElem?_append_right (by omega)] at hu hp
    rw [← hl] at hp
    obtain ⟨i, hi⟩ : ∃ i, j - X.length = i := ⟨_, rfl⟩
    rw [hi] at hu hp
    cases i with
    | zero => simp at hu hp; subst hu hp; rfl
    | succ i => simp at hu
theorem RA.all {w w' : World} {X : List AnV} {qs : Qs} (h : RA w X qs) (hk : ∀ (x : AnV) (b : Ans), InA w x b → InA w' x b) : RA w' X qs := by
  refine ⟨h.1, fun j u p hu hp => ?_⟩
  have h1 := h.2 j u p hu hp
  obtain ⟨q, v⟩ := p
  cases v with
  | some b => exact hk u b h1
  | none => exact h1
def Tr.answerR (t : Tr) (a : Ans) : Tr × Int :=
  if t.state ≠ 0 then (t, 9) else if isOpen a.q t.qs = false then (t, 6) else
  if a.kn = false then ({ t.take a with state := 4 }, 0) else if a.rt = true then ({ t.take a with state := 3 }, 0) else
  if t.rec'.any (fun p => Ans.odd a.m a.ep p.2) then ({ t.take a with state := 4 }, 0) else (((t.take a).put a).close, 0)
def oddAt (a : Ans) (p : Qn × Option Ans) : Bool := match p.2 with | some b => Ans.odd a.m a.ep b | none => false
theorem rec_odd (a : Ans) : ∀ qs : Qs, (recOf qs).any (fun p => Ans.odd a.m a.ep p.2) = qs.any (oddAt a)
  | [] => rfl
  | (x, none) :: r => by rw [recOf_none, List.any_cons, rec_odd a r]; rfl
  | (x, some b) :: r => by rw [recOf_some, List.any_cons, List.any_cons, rec_odd a r]; rfl
theorem odd_none {a : Ans} {qs : Qs} (h : ∀ j (hj : j < qs.length), oddAt a qs[j] = false) : (recOf qs).any (fun p => Ans.odd a.m a.ep p.2) = false := by
  rw [rec_odd, List.any_eq_false]
  intro p hp
  obtain ⟨j, hj, rfl⟩ := List.getElem_of_mem hp
  rw [h j hj]
  decide
theorem odd_some {a : Ans} {qs : Qs} {j : Nat} (hj : j < qs.length) (h : oddAt a qs[j] = true) : (recOf qs).any (fun p => Ans.odd a.m a.ep p.2) = true := by
  rw [rec_odd, List.any_eq_true]
  exact ⟨_, List.getElem_mem hj, h⟩
theorem setQ_set {q : Qn} {a : Ans} : ∀ {qs : Qs} (_ : (qs.map (·.1)).Nodup) (k : Nat) (hk : k < qs.length), qs[k].1 = q → setQ q a qs = qs.set k (q, some a)
  | [], _, _, h, _ => by simp at h
  | (x, u) :: r, hn, 0, _, e => by
    obtain ⟨h1, h2⟩ := List.nodup_cons.1 hn
    simp only [List.getElem_cons_zero] at e
    subst e
    rw [setQ_cons, if_pos rfl, setQ_same h1]
    rfl
  | (x, u) :: r, hn, k + 1, hk, e => by
    obtain ⟨h1, h2⟩ := List.nodup_cons.1 hn
    have hk' : k < r.length := by simpa using hk
    simp only [List.getElem_cons_succ] at e
    have hx : x ≠ q := fun e2 => h1 (by rw [e2, ← e]; exact List.mem_map.2 ⟨_, List.getElem_mem hk', rfl⟩)
    rw [setQ_cons, if_neg hx, setQ_set h2 k hk' e]
    rfl
theorem isOpen_at {t : Tr} (h : t.Inv) {q : Qn} {k : Nat} (hk : k < t.qs.length) (e : t.qs[k].1 = q) : isOpen q t.qs = !t.qs[k].2.isSome := by
  have hm := List.getElem_mem hk
  obtain ⟨⟨q', u⟩, hp⟩ : ∃ p, t.qs[k] = p := ⟨_, rfl⟩
  rw [hp] at hm e ⊢
  simp only at e
  subst e
  cases u with
  | none => exact isOpen_mem.2 hm
  | some b =>
    unfold isOpen
    simp only [Option.isSome_some, Bool.not_true, decide_eq_false_iff_not]
    intro h2
    have := nd_val h.nd hm h2
    cases this
theorem isOpen_not {t : Tr} {q : Qn} (h : q ∉ t.op) : isOpen q t.qs = false := by
  unfold isOpen
  simp only [decide_eq_false_iff_not]
  exact fun h2 => h (List.mem_map.2 ⟨_, h2, rfl⟩)
theorem LRd.snoc {w : World} {X : List AnV} {Y : List Ans} {x : AnV} {y : Ans} (h : LRd w X Y) (hx : InR w x y) : LRd w (X ++ [x]) (Y ++ [y]) := by
  obtain ⟨hl, hh⟩ := h
  refine ⟨by simp [hl], fun k u v hu hv => ?_⟩
  by_cases hk : k < X.length
  · rw [List.getElem?_append_left hk] at hu
    rw [List.getElem?_append_left (by omega)] at hv
    exact hh k u v hu hv
  · rw [List.getElem?_append_right (by omega)] at hu hv
    rw [← hl] at hv
    obtain ⟨j, hj⟩ : ∃ j, k - X.length = j := ⟨_, rfl⟩
    rw [hj] at hu hv
    cases j with
    | zero => simp at hu hv; subst hu hv; exact hx
    | succ j => simp at hu
theorem ans_end {w W wE : World} {X B N : Nat} {v8 : Value} {XH : List AnV} {va : Option Addr} {vc : Nat} {a : Ans} {H : List Ans} {u0 u2 : Array Value} (hks : Keeps [X, X + 1 + 1] W wE) (hkf : Keeps [] w wE) (hl : LA w XH H) (hOI : shT.O W B tI (.slice va N vc) a.ins)
    (hO8 : shA.O W B tA v8 (XH ++ [⟨a.m, a.ow, a.n, a.ep, a.kn, a.rt, a.lu, va, N, vc⟩])) (h0 : W.heap[X]? = some (.cells u0 tR (0, 0))) (h2 : W.heap[X + 1 + 1]? = some (.cells u2 tR (0, 0))) : ∃ Z, shA.R wE v8 Z ∧ LA wE Z (H ++ [a]) := by
  have k1 : ∀ (e : TypeId) (v : Value), e ≠ tR → (∀ b, v.ownBlock = some b → ∃ (cs : Array Value), W.heap[b]? = some (Obj.cells cs e (0, 0))) → ∀ b ∈ [X, X + 1 + 1], v.ownBlock ≠ some b := fun e v he ht b hb hv => by
    obtain ⟨cs, hc⟩ := ht b hv
    simp at hb
    rcases hb with rfl | rfl
    · exact tag_ne h0 hc (Ne.symm he) rfl
    · exact tag_ne h2 hc (Ne.symm he) rfl
  have hI := hOI.keepS hks (k1 tI _ (by decide) hOI.tag)
  have h8 := (hO8.keepS hks (k1 tA _ (by decide) hO8.tag)).r
  exact ⟨_, h8, (hl.ki hkf.ki0).snoc ⟨rfl, rfl, rfl, rfl, rfl, rfl, rfl, ⟨_, hI⟩⟩⟩
theorem O_some {α : Type} {s : Sh α} {w : World} {B e : Nat} {v : Value} {L : List α} (h : s.O w B e v L) (hl : 0 < L.length) : ∃ g cap cur, v = .slice (some ⟨g, 0, none⟩) L.length cap ∧ B ≤ g ∧ w.heap[g]? = some (.cells cur e (0, 0)) ∧ L.length ≤ cap ∧ cur.size = cap * s.sz := by
  rcases h.2 with ⟨_, e⟩ | ⟨g, cap, cur, rfl, h1, h2, h3, _, h5, _⟩
  · omega
  · exact ⟨g, cap, cur, rfl, h1, h2, h3, h5⟩
theorem cells8f {w : World} {b : Nat} {x0 x1 x2 x3 x4 x5 x6 x7 : Value} {t : TypeId} (h : w.heap[b]? = some (.cells #[x0, x1, x2, x3, x4, x5, x6, x7] t (0, 0))) :
    w.cell? ⟨b, 0, none⟩ = some x0 ∧ w.cell? ⟨b, 1, none⟩ = some x1 ∧ w.cell? ⟨b, 2, none⟩ = some x2 ∧ w.cell? ⟨b, 3, none⟩ = some x3 ∧ w.cell? ⟨b, 4, none⟩ = some x4 ∧ w.cell? ⟨b, 5, none⟩ = some x5 ∧ w.cell? ⟨b, 6, none⟩ = some x6 ∧ w.cell? ⟨b, 7, none⟩ = some x7 ∧ (∀ o, w.frozen? ⟨b, o, none⟩ = false) ∧ b < w.heap.size := by
  refine ⟨?_, ?_, ?_, ?_, ?_, ?_, ?_, ?_, fun o => ?_, lt_of_blk h⟩ <;> simp [World.cell?, World.frozen?, h]
/-- While a trace gathers, its history are the recorded answers. -/
def Tr.HistOk (t : Tr) : Prop := t.state = 0 → ∀ b, b ∈ t.hist ↔ ∃ p ∈ t.rec', p.2 = b
theorem Tr.answerR_eq {t : Tr} {a : Ans} (h : t.HistOk) : t.answerR a = t.answer a := by
  unfold Tr.answerR Tr.answer
  by_cases hs : t.state = 0
  · have he : (t.rec'.any fun p => Ans.odd a.m a.ep p.2) = (t.hist ++ [a]).any (Ans.odd a.m a.ep) := by
      rw [Bool.eq_iff_iff, List.any_eq_true, List.any_eq_true]
      constructor
      · rintro ⟨p, hp, ho⟩
        exact ⟨p.2, List.mem_append_left _ ((h hs p.2).2 ⟨p, hp, rfl⟩), ho⟩
      · rintro ⟨b, hb, ho⟩
        rcases List.mem_append.1 hb with hb | hb
        · obtain ⟨p, hp, rfl⟩ := (h hs b).1 hb
          exact ⟨p, hp, ho⟩
        · rw [List.mem_singleton.1 hb] at ho
          simp [Ans.odd] at ho
    rw [he]
  · rw [if_pos hs, if_pos hs]
end Go.Proofs.Ythfdngjbcgkkfaa

namespace Go.Proofs.Ythfdngjbcgkkfaa
open Go.RowKit

/-- A need is put in its place, if there is none with its key. -/
def putN (n : T3) : List T3 → List T3
  | [] => [n]
  | x :: r => if tlt x n then x :: putN n r else if x.1 = n.1 ∧ x.2.1 = n.2.1 then x :: r else n :: x :: r
theorem putN_at (n : T3) : ∀ (l : List T3) (i : Nat), i ≤ l.length → (∀ j (hj : j < l.length), j < i → tlt l[j] n) → (∀ (hi : i < l.length), ¬ tlt l[i] n) →
    putN n l = if (∃ hi : i < l.length, l[i].1 = n.1 ∧ l[i].2.1 = n.2.1) then l else l.take i ++ n :: l.drop i
  | [], i, hi, _, _ => by
    have : i = 0 := by simpa using hi
    subst this
    simp [putN]
  | x :: r, 0, _, _, h2 => by
    have h0 := h2 (by simp)
    simp only [List.getElem_cons_zero] at h0
    simp only [putN, if_neg h0]
    simp
  | x :: r, i + 1, hi, h1, h2 => by
    have h0 := h1 0 (by simp) (by omega)
    simp only [List.getElem_cons_zero] at h0
    have ih := putN_at n r i (by simpa using hi) (fun j hj hji => by have := h1 (j + 1) (by simpa using hj) (by omega); simpa using this) (fun hi => by have := h2 (by simpa using hi); simpa using this)
    simp only [putN, if_pos h0, ih]
    by_cases e : ∃ hi : i < r.length, r[i].1 = n.1 ∧ r[i].2.1 = n.2.1
    · rw [if_pos e, if_pos]
      obtain ⟨e1, e2⟩ := e
      exact ⟨by simpa using e1, by simpa using e2⟩
    · rw [if_neg e, if_neg]
      · simp
      · rintro ⟨e1, e2⟩
        exact e ⟨by simpa using e1, by simpa using e2⟩
theorem putN_mem {n e : T3} : ∀ {l : List T3}, e ∈ putN n l → e ∈ l ∨ e = n
  | [], h => by simp [putN] at h; exact .inr h
  | x :: r, h => by
    unfold putN at h
    split at h
    · rcases List.mem_cons.1 h with rfl | h
      · exact .inl (by simp)
      · rcases putN_mem h with h | h
        · exact .inl (by simp [h])
        · exact .inr h
    · split at h
      · exact .inl h
      · rcases List.mem_cons.1 h with rfl | h
        · exact .inr rfl
        · exact .inl h
theorem tlt_trans {x y z : T3} : tlt x y → tlt y z → tlt x z := by unfold tlt; omega
theorem putN_sorted {n : T3} : ∀ {l : List T3}, l.Pairwise tlt → (putN n l).Pairwise tlt
  | [], _ => by simp [putN]
  | x :: r, h => by
    obtain ⟨h1, h2⟩ := List.pairwise_cons.1 h
    unfold putN
    split
    · rename_i hx
      refine List.pairwise_cons.2 ⟨fun e he => ?_, putN_sorted h2⟩
      rcases putN_mem he with he | rfl
      · exact h1 e he
      · exact hx
    · rename_i hx
      split
      · exact h
      · rename_i hk
        have hn : tlt n x := by unfold tlt at hx ⊢; omega
        refine List.pairwise_cons.2 ⟨fun e he => ?_, h⟩
        rcases List.mem_cons.1 he with rfl | he
        · exact hn
        · exact tlt_trans hn (h1 e he)
theorem putN_new {n : T3} : ∀ {l : List T3}, (∀ x ∈ l, ¬ (x.1 = n.1 ∧ x.2.1 = n.2.1)) → (putN n l).Perm (n :: l)
  | [], _ => by simp [putN]
  | x :: r, h => by
    unfold putN
    split
    · exact ((putN_new (fun y hy => h y (by simp [hy]))).cons x).trans (List.Perm.swap _ _ _)
    · rw [if_neg (h x (by simp))]
theorem putN_old {n : T3} : ∀ {l : List T3}, l.Pairwise tlt → (∃ x ∈ l, x.1 = n.1 ∧ x.2.1 = n.2.1) → putN n l = l
  | [], _, h => by simp at h
  | x :: r, hs, h => by
    obtain ⟨h1, h2⟩ := List.pairwise_cons.1 hs
    unfold putN
    obtain ⟨y, hy, hk⟩ := h
    rcases List.mem_cons.1 hy with rfl | hy
    · rw [if_neg (by unfold tlt; omega), if_pos hk]
    · have hxy := h1 y hy
      rw [if_pos (by unfold tlt at *; omega), putN_old h2 ⟨y, hy, hk⟩]
/-- An answer is put in its place. -/
def insA (a : Ans) : List Ans → List Ans
  | [] => [a]
  | x :: r => if qlt x.q a.q then x :: insA a r else a :: x :: r
theorem insA_at (a : Ans) : ∀ (l : List Ans) (i : Nat), i ≤ l.length → (∀ j (hj : j < l.length), j < i → qlt l[j].q a.q) → (∀ (hi : i < l.length), ¬ qlt l[i].q a.q) → insA a l = l.take i ++ a :: l.drop i
  | [], i, hi, _, _ => by
    have : i = 0 := by simpa using hi
    subst this
    simp [insA]
  | x :: r, 0, _, _, h2 => by
    have h0 := h2 (by simp)
    simp only [List.getElem_cons_zero] at h0
    simp only [insA, if_neg h0]
    simp
  | x :: r, i + 1, hi, h1, h2 => by
    have h0 := h1 0 (by simp) (by omega)
    simp only [List.getElem_cons_zero] at h0
    have ih := insA_at a r i (by simpa using hi) (fun j hj hji => by have := h1 (j + 1) (by simpa using hj) (by omega); simpa using this) (fun hi => by have := h2 (by simpa using hi); simpa using this)
    simp only [insA, if_pos h0, ih]
    simp
theorem insA_perm (a : Ans) : ∀ l : List Ans, (insA a l).Perm (a :: l)
  | [] => by simp [insA]
  | x :: r => by
    unfold insA
    split
    · exact ((insA_perm a r).cons x).trans (List.Perm.swap _ _ _)
    · exact List.Perm.refl _
theorem insA_sorted {a : Ans} : ∀ {l : List Ans}, l.Pairwise (fun x y => qlt x.q y.q) → (∀ x ∈ l, x.q ≠ a.q) → (insA a l).Pairwise (fun x y => qlt x.q y.q)
  | [], _, _ => by simp [insA]
  | x :: r, h, hn => by
    obtain ⟨h1, h2⟩ := List.pairwise_cons.1 h
    unfold insA
    split
    · rename_i hx
      refine List.pairwise_cons.2 ⟨fun e he => ?_, insA_sorted h2 (fun y hy => hn y (by simp [hy]))⟩
      rcases List.mem_cons.1 ((insA_perm a r).mem_iff.1 he) with rfl | he
      · exact hx
      · exact h1 e he
    · rename_i hx
      have hax : qlt a.q x.q := by
        by_cases e : qlt a.q x.q
        · exact e
        · exact absurd (qlt_total hx e) (hn x (by simp))
      refine List.pairwise_cons.2 ⟨fun e he => ?_, h⟩
      rcases List.mem_cons.1 he with rfl | he
      · exact hax
      · exact qlt_trans hax (h1 e he)
/-- The answers of the questions, in the order of the questions, put in their places. -/
def insO (l : List Ans) (p : Qn × Option Ans) : List Ans := match p.2 with
  | some a => insA a l
  | none => l
def srtOf (qs : Qs) : List Ans := qs.foldl insO []
theorem rec_vals : ∀ qs : Qs, (recOf qs).map (·.2) = qs.filterMap (·.2)
  | [] => rfl
  | (x, none) :: r => by rw [recOf_none, rec_vals r]; rfl
  | (x, some a) :: r => by rw [recOf_some, List.map_cons, rec_vals r]; rfl
theorem srt_fold : ∀ (qs : Qs) (l : List Ans), (qs.foldl insO l).Perm (l ++ qs.filterMap (·.2))
  | [], l => by simp
  | (x, none) :: r, l => by
    rw [List.foldl_cons]
    exact (srt_fold r l).trans (by simp)
  | (x, some a) :: r, l => by
    rw [List.foldl_cons]
    refine (srt_fold r (insA a l)).trans ?_
    rw [show List.filterMap (fun x : Qn × Option Ans => x.2) ((x, some a) :: r) = a :: List.filterMap (fun x => x.2) r from rfl]
    exact ((insA_perm a l).append_right _).trans List.perm_middle.symm
theorem srt_sorted : ∀ (qs : Qs) (l : List Ans), l.Pairwise (fun x y => qlt x.q y.q) → ((l ++ qs.filterMap (·.2)).map Ans.q).Nodup → (qs.foldl insO l).Pairwise (fun x y => qlt x.q y.q)
  | [], l, h, _ => h
  | (x, none) :: r, l, h, hn => by
    rw [List.foldl_cons]
    exact srt_sorted r l h (by simpa using hn)
  | (x, some a) :: r, l, h, hn => by
    rw [List.foldl_cons]
    rw [show List.filterMap (fun x : Qn × Option Ans => x.2) ((x, some a) :: r) = a :: List.filterMap (fun x => x.2) r from rfl] at hn
    refine srt_sorted r (insA a l) (insA_sorted h (fun y hy e => ?_)) ?_
    · rw [List.map_append, List.nodup_append] at hn
      exact hn.2.2 y.q (List.mem_map.2 ⟨y, hy, rfl⟩) a.q (by simp) e
    · exact (((insA_perm a l).append_right _).trans List.perm_middle.symm |>.map Ans.q).nodup_iff.2 hn
theorem srtOf_sorted {t : Tr} (h : t.Inv) : SortedA t (srtOf t.qs) := by
  have hv : t.rec'.map (·.2) = t.qs.filterMap (·.2) := rec_vals t.qs
  refine ⟨?_, srt_sorted _ _ List.Pairwise.nil ?_⟩
  · rw [hv]
    have := srt_fold t.qs []
    rw [List.nil_append] at this
    exact this
  · rw [List.nil_append, ← hv, List.map_map]
    have e : t.rec'.map (Ans.q ∘ (·.2)) = t.rec'.map (·.1) := List.map_congr_left (fun p hp => h.rq p hp)
    rw [e]
    exact recOf_nd h.nd
/-- One answer's needs, as the specification notes them. -/
def stR (O : List (Qn × Int)) (a : Ans) (l : List T3) : List T3 := match MapS.get (a.ow, a.m, a.n) O with
  | some o => putN (a.ow, a.n, o) l
  | none => l
def chR (O : List (Qn × Int)) (a : Ans) (l : List T3) : List T3 := match MapS.get (a.ow, a.m, a.n) O with
  | some _ => l
  | none => putN (a.ow, a.n, 0) l
def scR (t : Tr) (m : Int) (l : List T3) (x : T3) : List T3 := putN (scN t m x) l
def refA (t : Tr) (O : List (Qn × Int)) (c : PCl) (a : Ans) : PCl := ⟨c.m, c.ep, stR O a c.st, a.ins.foldl (scR t a.m) c.sc, chR O a c.ch⟩
def refC (t : Tr) (O : List (Qn × Int)) (P : List PCl) (a : Ans) : List PCl := let Q := openC P a; match Q[Q.length - 1]? with
  | some c => Q.take (Q.length - 1) ++ [refA t O c a]
  | none => Q
def refOf (t : Tr) (O : List (Qn × Int)) (Y : List Ans) : List PCl := Y.foldl (refC t O) []
theorem refC_at {t : Tr} {O : List (Qn × Int)} {P R : List PCl} {a : Ans} {c : PCl} (h : openC P a = R ++ [c]) : refC t O P a = R ++ [refA t O c a] := by
  unfold refC
  rw [h]
  simp
/-- Both ways of noting, side by side. -/
structure RC1 (t : Tr) (Z : List Ans) (p p' : PCl) : Prop where
  m : p'.m = p.m
  ep : p'.ep = p.ep
  perm : ∀ j, j < 3 → (p'.at j).Perm (p.at j)
  srt : ∀ j, j < 3 → (p'.at j).Pairwise tlt
  lu : ∀ e ∈ p.sc, e.2.2 = luOf t (e.1, p.m, e.2.1)
  st : ∀ e ∈ p.st, ∃ b ∈ Z, b.m = p.m ∧ b.ow = e.1 ∧ b.n = e.2.1
  ch : ∀ e ∈ p.ch, ∃ b ∈ Z, b.m = p.m ∧ b.ow = e.1 ∧ b.n = e.2.1
structure RC (t : Tr) (Z : List Ans) (P P' : List PCl) : Prop where
  len : P'.length = P.length
  at' : ∀ k (h1 : k < P'.length) (h2 : k < P.length), RC1 t Z P[k] P'[k]
theorem RC1.mono {t : Tr} {Z Z' : List Ans} {p p' : PCl} (h : RC1 t Z p p') (hz : ∀ b ∈ Z, b ∈ Z') : RC1 t Z' p p' :=
  ⟨h.m, h.ep, h.perm, h.srt, h.lu, fun e he => by obtain ⟨b, hb, r⟩ := h.st e he; exact ⟨b, hz b hb, r⟩, fun e he => by obtain ⟨b, hb, r⟩ := h.ch e he; exact ⟨b, hz b hb, r⟩⟩
theorem RC.mono {t : Tr} {Z Z' : List Ans} {P P' : List PCl} (h : RC t Z P P') (hz : ∀ b ∈ Z, b ∈ Z') : RC t Z' P P' := ⟨h.len, fun k h1 h2 => (h.at' k h1 h2).mono hz⟩
theorem RC.snoc {t : Tr} {Z : List Ans} {P P' : List PCl} {c c' : PCl} (h : RC t Z P P') (hc : RC1 t Z c c') : RC t Z (P ++ [c]) (P' ++ [c']) := by
  refine ⟨by simp [h.len], fun k h1 h2 => ?_⟩
  have hl := h.len
  by_cases e : k < P.length
  · rw [List.getElem_append_left e, List.getElem_append_left (by omega)]
    exact h.at' k (by omega) e
  · have h3 : k = P.length := by simp at h2; omega
    subst h3
    rw [List.getElem_append_right (by omega), List.getElem_append_right (by omega)]
    simpa [hl] using hc
theorem RC.split {t : Tr} {Z : List Ans} {P P' : List PCl} {c c' : PCl} (h : RC t Z (P ++ [c]) (P' ++ [c'])) : RC t Z P P' ∧ RC1 t Z c c' := by
  have hl : P'.length = P.length := by have := h.len; simpa using this
  refine ⟨⟨hl, fun k h1 h2 => ?_⟩, ?_⟩
  · have := h.at' k (by simp; omega) (by simp; omega)
    rw [List.getElem_append_left h2, List.getElem_append_left h1] at this
    exact this
  · have := h.at' P.length (by simp; omega) (by simp)
    rw [List.getElem_append_right (by omega), List.getElem_append_right (by omega)] at this
    simpa [hl] using this
theorem RC.open {t : Tr} {Z : List Ans} {P P' : List PCl} (h : RC t Z P P') (a : Ans) : ∃ R R' c c', openC P a = R ++ [c] ∧ openC P' a = R' ++ [c'] ∧ RC t Z R R' ∧ RC1 t Z c c' ∧ c.m = a.m := by
  have hnew : RC1 t Z ⟨a.m, a.ep, [], [], []⟩ ⟨a.m, a.ep, [], [], []⟩ := ⟨rfl, rfl, fun j hj => List.Perm.refl _, fun j hj => by unfold PCl.at; split <;> exact List.Pairwise.nil, by simp, by simp, by simp⟩
  rcases nil_or_snoc P with rfl | ⟨R, c, rfl⟩
  · have : P' = [] := List.length_eq_zero_iff.1 (by have := h.len; simpa using this)
    subst this
    exact ⟨[], [], _, _, rfl, rfl, h, hnew, rfl⟩
  · rcases nil_or_snoc P' with rfl | ⟨R', c', rfl⟩
    · have := h.len; simp at this
    · obtain ⟨hR, hc⟩ := h.split
      rw [openC_snoc, openC_snoc, hc.m]
      split
      · rename_i e
        exact ⟨R, R', c, c', rfl, rfl, hR, hc, e⟩
      · exact ⟨R ++ [c], R' ++ [c'], _, _, rfl, rfl, h, hnew, rfl⟩
theorem sc_both (t : Tr) (m : Int) : ∀ (l : List T3) (x y : List T3), y.Perm x → y.Pairwise tlt → (∀ e ∈ x, e.2.2 = luOf t (e.1, m, e.2.1)) →
    (l.foldl (scR t m) y).Perm (l.foldl (scS t m) x) ∧ (l.foldl (scR t m) y).Pairwise tlt ∧ ∀ e ∈ l.foldl (scS t m) x, e.2.2 = luOf t (e.1, m, e.2.1)
  | [], x, y, h1, h2, h3 => ⟨h1, h2, h3⟩
  | u :: r, x, y, h1, h2, h3 => by
    rw [List.foldl_cons, List.foldl_cons]
    have hn : (scN t m u).2.2 = luOf t ((scN t m u).1, m, (scN t m u).2.1) := rfl
    refine sc_both t m r _ _ ?_ (putN_sorted h2) (fun e he => ?_)
    · unfold scR scS addN
      by_cases hm : scN t m u ∈ x
      · rw [if_pos hm, putN_old h2 ⟨_, h1.mem_iff.2 hm, rfl, rfl⟩]
        exact h1
      · rw [if_neg hm]
        refine (putN_new (fun e he hk => ?_)).trans ((h1.cons _).trans (List.perm_append_singleton _ _).symm)
        have hex := h1.mem_iff.1 he
        have := h3 e hex
        have e2 : e = scN t m u := by
          obtain ⟨e0, e1, e2⟩ := e
          obtain ⟨k1, k2⟩ := hk
          simp only at this k1 k2
          rw [k1, k2] at this
          rw [Prod.mk.injEq, Prod.mk.injEq] 
          exact ⟨k1, k2, this⟩
        rw [e2] at hex
        exact hm hex
    · unfold scS at he
      rcases (addN_mem _ _ _).1 he with he | rfl
      · exact h3 e he
      · exact hn
theorem RC1.step {t : Tr} {O : List (Qn × Int)} {Z : List Ans} {c c' : PCl} {a : Ans} (h : RC1 t Z c c') (hm : c.m = a.m) (hZ : ∀ b ∈ Z, b.q ≠ a.q) {d : PCl}
    (hd : d = (match MapS.get (a.ow, a.m, a.n) O with
      | some o => c.upd 0 (c.st ++ [(a.ow, a.n, o)])
      | none => c.upd 2 (c.ch ++ [(a.ow, a.n, 0)]) : PCl).upd 1 (a.ins.foldl (scS t a.m) c.sc)) : RC1 t (Z ++ [a]) d (refA t O c' a) := by
  obtain ⟨s1, s2, s3⟩ := sc_both t a.m a.ins c.sc c'.sc (h.perm 1 (by omega)) (h.srt 1 (by omega)) (by rw [← hm]; exact h.lu)
  have hst : ∀ {l l' : List T3} {n : T3}, l'.Perm l → l'.Pairwise tlt → (∀ e ∈ l, ∃ b ∈ Z, b.m = c.m ∧ b.ow = e.1 ∧ b.n = e.2.1) → n.1 = a.ow → n.2.1 = a.n → (putN n l').Perm (l ++ [n]) ∧ (putN n l').Pairwise tlt := by
    intro l l' n hp hs hb h1 h2
    refine ⟨(putN_new (fun e he hk => ?_)).trans ((hp.cons _).trans (List.perm_append_singleton _ _).symm), putN_sorted hs⟩
    obtain ⟨b, hbz, b1, b2, b3⟩ := hb e (hp.mem_iff.1 he)
    exact hZ b hbz (by unfold Ans.q; rw [b1, hm, b2, b3, hk.1, hk.2, h1, h2])
  cases hg : MapS.get (a.ow, a.m, a.n) O with
  | some o =>
    rw [hg] at hd
    obtain ⟨q1, q2⟩ := hst (n := (a.ow, a.n, o)) (h.perm 0 (by omega)) (h.srt 0 (by omega)) h.st rfl rfl
    subst hd
    refine ⟨h.m, h.ep, fun j hj => ?_, fun j hj => ?_, ?_, fun e he => ?_, fun e he => ?_⟩
    · match j, hj with
      | 0, _ => simp only [refA, stR, hg]; exact q1
      | 1, _ => exact s1
      | 2, _ => simp only [refA, chR, hg]; exact h.perm 2 (by omega)
    · match j, hj with
      | 0, _ => simp only [refA, stR, hg]; exact q2
      | 1, _ => exact s2
      | 2, _ => simp only [refA, chR, hg]; exact h.srt 2 (by omega)
    · intro e he
      have := s3 e he
      rw [← hm] at this; exact this
    · have he' : e ∈ c.st ++ [(a.ow, a.n, o)] := he
      rcases List.mem_append.1 he' with he | he
      · obtain ⟨b, hb, r⟩ := h.st e he; exact ⟨b, by simp [hb], r⟩
      · simp at he; subst he; exact ⟨a, by simp, hm.symm, rfl, rfl⟩
    · obtain ⟨b, hb, r⟩ := h.ch e he; exact ⟨b, by simp [hb], r⟩
  | none =>
    rw [hg] at hd
    obtain ⟨q1, q2⟩ := hst (n := (a.ow, a.n, 0)) (h.perm 2 (by omega)) (h.srt 2 (by omega)) h.ch rfl rfl
    subst hd
    refine ⟨h.m, h.ep, fun j hj => ?_, fun j hj => ?_, ?_, fun e he => ?_, fun e he => ?_⟩
    · match j, hj with
      | 0, _ => simp only [refA, stR, hg]; exact h.perm 0 (by omega)
      | 1, _ => exact s1
      | 2, _ => simp only [refA, chR, hg]; exact q1
    · match j, hj with
      | 0, _ => simp only [refA, stR, hg]; exact h.srt 0 (by omega)
      | 1, _ => exact s2
      | 2, _ => simp only [refA, chR, hg]; exact q2
    · intro e he
      have := s3 e he
      rw [← hm] at this; exact this
    · obtain ⟨b, hb, r⟩ := h.st e he; exact ⟨b, by simp [hb], r⟩
    · have he' : e ∈ c.ch ++ [(a.ow, a.n, 0)] := he
      rcases List.mem_append.1 he' with he | he
      · obtain ⟨b, hb, r⟩ := h.ch e he; exact ⟨b, by simp [hb], r⟩
      · simp at he; subst he; exact ⟨a, by simp, hm.symm, rfl, rfl⟩
theorem RC.step {t : Tr} {O : List (Qn × Int)} {Z : List Ans} {P P' : List PCl} {a : Ans} (h : RC t Z P P') (hZ : ∀ b ∈ Z, b.q ≠ a.q) : RC t (Z ++ [a]) (rawC t O P a) (refC t O P' a) := by
  obtain ⟨R, R', c, c', h1, h2, h3, h4, h5⟩ := h.open a
  rw [refC_at h2]
  have hr : rawC t O P a = R ++ [(match MapS.get (a.ow, a.m, a.n) O with
      | some o => c.upd 0 (c.st ++ [(a.ow, a.n, o)])
      | none => c.upd 2 (c.ch ++ [(a.ow, a.n, 0)]) : PCl).upd 1 (a.ins.foldl (scS t a.m) c.sc)] := by
    unfold rawC needC
    rw [h1]
    cases hg : MapS.get (a.ow, a.m, a.n) O with
    | some o => simp only; rw [updL_snoc, sc_fold_snoc]; rfl
    | none => simp only; rw [updL_snoc, sc_fold_snoc]; rfl
  rw [hr]
  exact (h3.mono (fun b hb => by simp [hb])).snoc (h4.step h5 hZ rfl)
theorem refOf_rc (t : Tr) (O : List (Qn × Int)) (Y : List Ans) : Y.Pairwise (fun x y => qlt x.q y.q) → RC t Y (rawOf t O Y) (refOf t O Y) := by
  induction Y using snoc_ind with
  | h0 => exact fun _ => ⟨rfl, fun k h1 => by simp [refOf] at h1⟩
  | hs Y a ih =>
    intro hs
    obtain ⟨h1, _, h2⟩ := List.pairwise_append.1 hs
    have e1 : rawOf t O (Y ++ [a]) = rawC t O (rawOf t O Y) a := by unfold rawOf; rw [List.foldl_append]; rfl
    have e2 : refOf t O (Y ++ [a]) = refC t O (refOf t O Y) a := by unfold refOf; rw [List.foldl_append]; rfl
    rw [e1, e2]
    exact (ih h1).step (fun b hb e => by have := h2 b hb a (by simp); rw [e] at this; exact qlt_irrefl _ this)
/-- The specification's claims are the claims. -/
theorem refOf_claims {t : Tr} {Y : List Ans} (h : Y.Pairwise (fun x y => qlt x.q y.q)) : ClaimsP t Y (refOf t (outsOf Y) Y) := by
  have hr := refOf_rc t (outsOf Y) Y h
  refine ⟨hr.len, fun k h1 h2 => ?_⟩
  have := hr.at' k h1 h2
  exact ⟨this.m, this.ep, fun j hj => ⟨this.perm j hj, (this.srt j hj).imp (fun h => by unfold tlt at *; omega)⟩⟩
/-- What a scan for a scion finds. -/
def outL (Y : List Ans) (k : Qn) : Option Int := (Y.findSome? (fun a => a.ins.findSome? (fun x => if a.m = k.1 ∧ x.1 = k.2.1 ∧ x.2.1 = k.2.2 then some x.2.2 else none)))
theorem out_fold_get (m : Int) (k : Qn) : ∀ (l : List T3) (acc : List (Qn × Int)), MapS.get k (l.foldl (outA m) acc) = (MapS.get k acc).or (l.findSome? (fun x => if m = k.1 ∧ x.1 = k.2.1 ∧ x.2.1 = k.2.2 then some x.2.2 else none))
  | [], acc => by simp
  | x :: r, acc => by
    rw [List.foldl_cons, out_fold_get m k r, List.findSome?_cons]
    obtain ⟨k0, k1, k2⟩ := k
    unfold outA
    by_cases e : m = k0 ∧ x.1 = k1 ∧ x.2.1 = k2
    · obtain ⟨rfl, rfl, rfl⟩ := e
      simp only [and_self, if_true]
      cases hg : MapS.get (m, x.1, x.2.1) acc with
      | some o => simp [hg]
      | none => simp [hg, MapS.get_append, MapS.get]
    · simp only [if_neg e]
      split
      · rfl
      · rw [MapS.get_append]
        have e' : ¬ ((m, x.1, x.2.1) : Qn) = (k0, k1, k2) := fun h => e (by simpa using h)
        simp [MapS.get, e']
theorem outsOf_get (Y : List Ans) (k : Qn) : MapS.get k (outsOf Y) = outL Y k := by
  induction Y using snoc_ind with
  | h0 => rfl
  | hs Y a ih =>
    have : outsOf (Y ++ [a]) = a.ins.foldl (outA a.m) (outsOf Y) := by unfold outsOf; rw [List.foldl_append]; rfl
    rw [this, out_fold_get, ih]
    unfold outL
    rw [List.findSome?_append]
    congr 1
    simp
/-- What a scan for an answer finds. -/
def luL (Y : List Ans) (q : Qn) : Int := ((Y.find? (fun a => decide (a.q = q))).map Ans.lu).getD 0
theorem luL_eq {t : Tr} (h : t.Inv) {Y : List Ans} (hY : SortedA t Y) (q : Qn) : luL Y q = luOf t q := by
  unfold luL luOf
  congr 1
  cases hf : Y.find? (fun a => decide (a.q = q)) with
  | some a =>
    have e1 : a.q = q := by simpa using List.find?_some hf
    obtain ⟨p, hp, e2⟩ := List.mem_map.1 (hY.1.mem_iff.1 (List.mem_of_find?_eq_some hf))
    have e3 := h.rq p hp
    obtain ⟨k, b⟩ := p
    simp only at e2 e3
    subst e2
    rw [e1] at e3
    subst e3
    rw [show MapS.get q t.rec' = some b from (MapS.get_iff (recOf_nd h.nd)).2 hp]
  | none =>
    have hn := List.find?_eq_none.1 hf
    cases hg : MapS.get q t.rec' with
    | none => rfl
    | some a =>
      have hp := (MapS.get_iff (recOf_nd h.nd)).1 hg
      have e3 := h.rq _ hp
      have := hn a (hY.1.mem_iff.2 (List.mem_map.2 ⟨_, hp, rfl⟩))
      simp only at e3
      simp [e3] at this
end Go.Proofs.Ythfdngjbcgkkfaa

namespace Go.Proofs.Ythfdngjbcgkkfaa
open Go.RowKit

set_option maxRecDepth 100000 in
set_option maxHeartbeats 2000000 in
theorem lessR_c (w : World) (x y : AnV) : Calls Try.prog 45 #[aV x, aV y] w fun e w' => e = .returned (.bool (decide (qlt x.q y.q))) ∧ Keeps [] w w' := by
  obtain ⟨x0, x1, x2, x3, x4, x5, x6, x7, x8, x9⟩ := x
  obtain ⟨y0, y1, y2, y3, y4, y5, y6, y7, y8, y9⟩ := y
  simp only [aV, AnV.v]
  have hkA : Keeps [] w ((w.alloc (.cells #[.int .i64 x0, .int .i64 x1, .int .u64 x2, .int .i64 x3, .bool x4, .bool x5, .int .i64 x6, .slice x7 x8 x9] tA)).alloc (.cells #[.int .i64 y0, .int .i64 y1, .int .u64 y2, .int .i64 y3, .bool y4, .bool y5, .int .i64 y6, .slice y7 y8 y9] tA)) := ((Keeps.refl _ _).alloc _).alloc _
  obtain ⟨r, hr⟩ : ∃ r, decide (qlt (AnV.q ⟨x0, x1, x2, x3, x4, x5, x6, x7, x8, x9⟩) (AnV.q ⟨y0, y1, y2, y3, y4, y5, y6, y7, y8, y9⟩)) = r := ⟨_, rfl⟩
  rw [hr]
  replace hkA := Lib.hid hkA
  by_cases a0 : x0 = y0
  · have b0 : (x0 != y0) = false := by simpa using a0
    by_cases a1 : x1 = y1
    · have b1 : (x1 != y1) = false := by simpa using a1
      have hd : decide ((x2 : Int) < (y2 : Int)) = r := by rw [← hr]; exact decide_eq_decide.2 (by unfold qlt AnV.q; simp only; omega)
      replace hr := Lib.hid hr
      replace a0 := Lib.hid a0
      replace a1 := Lib.hid a1
      go_enter Try.func45, Try.ntmps45
      go_wp2
      go_ret
      exact ⟨by first | (rw [← hd]; rfl) | (rw [← hd]; simp), hkA.out⟩
    · have b1 : (x1 != y1) = true := by simpa using a1
      have hd : decide (x1 < y1) = r := by rw [← hr]; exact decide_eq_decide.2 (by unfold qlt AnV.q; simp only; omega)
      replace hr := Lib.hid hr
      replace a0 := Lib.hid a0
      go_enter Try.func45, Try.ntmps45
      go_wp2
      go_ret
      exact ⟨by rw [← hd]; rfl, hkA.out⟩
  · have b0 : (x0 != y0) = true := by simpa using a0
    have hd : decide (x0 < y0) = r := by rw [← hr]; exact decide_eq_decide.2 (by unfold qlt AnV.q; simp only; omega)
    replace hr := Lib.hid hr
    go_enter Try.func45, Try.ntmps45
    go_wp2
    go_ret
    exact ⟨by rw [← hd]; rfl, hkA.out⟩
/-- A list of answers that is read. -/
def RdA (w : World) (v : Value) (Y : List Ans) : Prop := ∃ X, shA.R w v X ∧ LRd w X Y
theorem RdA.keeps {w w' : World} {v : Value} {Y : List Ans} (h : RdA w v Y) (hk : Keeps [] w w') : RdA w' v Y := by
  obtain ⟨X, h1, h2⟩ := h
  exact ⟨X, h1.keeps hk, h2.keeps hk⟩
theorem RdA.form {w : World} {v : Value} {Y : List Ans} (h : RdA w v Y) : ∃ a c, v = .slice a Y.length c ∧ Y.length ≤ c ∧ c ≤ maxLen := by
  obtain ⟨X, h1, h2⟩ := h
  obtain ⟨a, c, e, e1, e2, _⟩ := h1.form
  rw [h2.1] at e e1
  exact ⟨a, c, e, e1, e2⟩
theorem RdA.elem {w : World} {v : Value} {Y : List Ans} (h : RdA w v Y) {k : Nat} (hk : k < Y.length) : ∃ g o c x, v = .slice (some ⟨g, o, none⟩) Y.length c ∧ InR w x Y[k] ∧ ∀ j u, x.cs[j]? = some u → w.cell? ⟨g, o + k * 8 + j, none⟩ = some u := by
  obtain ⟨X, h1, h2⟩ := h
  have hkX : k < X.length := by rw [h2.1]; exact hk
  obtain ⟨g, o, c, e, he⟩ := h1.elem hkX
  rw [h2.1] at e
  exact ⟨g, o, c, X[k], e, h2.2 k _ _ (List.getElem?_eq_getElem hkX) (List.getElem?_eq_getElem hk), he⟩
theorem luL_at {Y : List Ans} {q : Qn} {k : Nat} (hk : k < Y.length) (hno : ∀ j (hj : j < Y.length), j < k → Y[j].q ≠ q) (hq : Y[k].q = q) : luL Y q = Y[k].lu := by
  unfold luL
  have : Y.find? (fun a => decide (a.q = q)) = some Y[k] := List.find?_eq_some_iff_getElem.2 ⟨by simpa using hq, k, hk, rfl, fun j hj => by simpa using hno j (by omega) hj⟩
  rw [this]; rfl
theorem luL_no {Y : List Ans} {q : Qn} (hno : ∀ j (hj : j < Y.length), Y[j].q ≠ q) : luL Y q = 0 := by
  unfold luL
  have : Y.find? (fun a => decide (a.q = q)) = none := List.find?_eq_none.2 (fun c hc => by
    obtain ⟨j, hj, rfl⟩ := List.mem_iff_getElem.1 hc
    simpa using hno j hj)
  rw [this]; rfl
set_option maxRecDepth 100000 in
set_option maxHeartbeats 2000000 in
theorem lastUseR_c (w : World) (v : Value) (Y : List Ans) (m o' : Int) (n : Nat) (h : RdA w v Y) :
    Calls Try.prog 47 #[v, .int .i64 m, .int .i64 o', .int .u64 n] w fun e w' => e = .returned (.int .i64 (luL Y (m, o', n))) ∧ Keeps [] w w' := by
  obtain ⟨a, c, rfl, hlc, hcm⟩ := h.form
  have hel := fun k hk => h.elem (k := k) hk
  obtain ⟨M, hM⟩ : ∃ N, Y.length = N := ⟨_, rfl⟩
  rw [hM] at hlc ⊢
  have hMm : M ≤ 9223372036854775807 := by unfold maxLen at hcm; omega
  obtain ⟨r, hr⟩ : ∃ r, luL Y (m, o', n) = r := ⟨_, rfl⟩
  rw [hr]
  replace hel := Lib.hid hel
  replace hM := Lib.hid hM
  replace hr := Lib.hid hr
  clear h
  go_enter Try.func47, Try.ntmps47
  go_wp2
  go_loopw [9] (fun i wr => ∃ k : Nat, i = .int .i64 k ∧ k ≤ M ∧ Hid (∀ j (hj : j < Y.length), j < k → Y[j].q ≠ (m, o', n)) ∧ Hid (Keeps [] w wr)) (fun i _ => M - (intOf i).toNat)
  case atStart => exact ⟨0, rfl, by omega, Lib.hid (fun _ _ h => by omega), Lib.hid (Keeps.refl _ _)⟩
  case round =>
    obtain ⟨k, rfl, hk, hno, hkw⟩ := hrel
    by_cases hlt : k < M
    · have hkl : k < Y.length := by rw [hM.out]; exact hlt
      obtain ⟨g, o, c', x, hv, hx, he⟩ := hel.out k hkl
      rw [hM.out] at hv
      cases hv
      have m0 := hx.m
      have m1 := hx.ow
      have m2 := hx.n
      have m6 := hx.lu
      obtain ⟨x0, x1, x2, x3, x4, x5, x6, x7, x8, x9⟩ := x
      have e0 := hkw.out.val (he 0 _ rfl)
      have e1 := hkw.out.val (he 1 _ rfl)
      have e2 := hkw.out.val (he 2 _ rfl)
      have e6 := hkw.out.val (he 6 _ rfl)
      simp only [AnV.v, Nat.add_zero] at e0 e1 e2 e6 m0 m1 m2 m6
      have hno2 : ¬ (x0 = m ∧ x1 = o' ∧ x2 = n) → ∀ j (hj : j < Y.length), j < k + 1 → Y[j].q ≠ (m, o', n) := fun hn j hj hjk => by
        by_cases e : j = k
        · subst e
          intro e2
          unfold Ans.q at e2
          simp only [Prod.mk.injEq] at e2
          exact hn ⟨m0.trans e2.1, m1.trans e2.2.1, m2.trans e2.2.2⟩
        · exact hno.out j hj (by omega)
      replace hno2 := Lib.hid hno2
      replace m0 := Lib.hid m0
      replace m1 := Lib.hid m1
      replace m2 := Lib.hid m2
      replace m6 := Lib.hid m6
      clear he hx
      by_cases a0 : x0 = m
      · have b0 : (x0 == m) = true := by simpa using a0
        by_cases a1 : x1 = o'
        · have b1 : (x1 == o') = true := by simpa using a1
          by_cases a2 : x2 = n
          · have b2 : ((x2 : Int) == (n : Int)) = true := by simp [a2]
            have hd : x6 = r := by
              rw [← hr.out, m6.out]
              exact (luL_at hkl hno.out (by unfold Ans.q; rw [← m0.out, ← m1.out, ← m2.out, a0, a1, a2])).symm
            replace a0 := Lib.hid a0
            replace a1 := Lib.hid a1
            replace a2 := Lib.hid a2
            replace hd := Lib.hid hd
            go_wp2
            go_ret
            exact ⟨by rw [← hd.out]; rfl, hkw.out⟩
          · have b2 : ((x2 : Int) == (n : Int)) = false := by simp; omega
            have h2 := Lib.hid (hno2.out (fun h => a2 h.2.2))
            replace a0 := Lib.hid a0
            replace a1 := Lib.hid a1
            replace a2 := Lib.hid a2
            go_wp2
            go_roundw
            case rel => exact ⟨k + 1, rfl, by omega, h2, hkw⟩
            case measure => simp [intOf]; omega
        · have b1 : (x1 == o') = false := by simpa using a1
          have h2 := Lib.hid (hno2.out (fun h => a1 h.2.1))
          replace a0 := Lib.hid a0
          replace a1 := Lib.hid a1
          go_wp2
          go_roundw
          case rel => exact ⟨k + 1, rfl, by omega, h2, hkw⟩
          case measure => simp [intOf]; omega
      · have b0 : (x0 == m) = false := by simpa using a0
        have h2 := Lib.hid (hno2.out (fun h => a0 h.1))
        replace a0 := Lib.hid a0
        go_wp2
        go_roundw
        case rel => exact ⟨k + 1, rfl, by omega, h2, hkw⟩
        case measure => simp [intOf]; omega
    · have hd : (0 : Int) = r := by rw [← hr.out]; exact (luL_no (fun j hj => hno.out j hj (by rw [hM.out] at hj; omega))).symm
      replace hd := Lib.hid hd
      go_wp2
      go_ret
      exact ⟨by rw [← hd.out]; rfl, hkw.out⟩
def insF (a : Ans) (q : Qn) (x : T3) : Option Int := if a.m = q.1 ∧ x.1 = q.2.1 ∧ x.2.1 = q.2.2 then some x.2.2 else none
theorem outL_def (Y : List Ans) (q : Qn) : outL Y q = Y.findSome? (fun a => a.ins.findSome? (insF a q)) := rfl
theorem findSome_at {α β : Type} {f : α → Option β} {l : List α} {k : Nat} {b : β} (hk : k < l.length) (hno : ∀ j (hj : j < l.length), j < k → f l[j] = none) (hb : f l[k] = some b) : l.findSome? f = some b := by
  induction l generalizing k with
  | nil => simp at hk
  | cons a t ih =>
    cases k with
    | zero => rw [List.findSome?_cons]; simp only [List.getElem_cons_zero] at hb; rw [hb]
    | succ k =>
      have h0 := hno 0 (by simp) (by omega)
      simp only [List.getElem_cons_zero] at h0
      rw [List.findSome?_cons, h0]
      exact ih (k := k) (by simpa using hk) (fun j hj hjk => by have := hno (j + 1) (by simpa using hj) (by omega); simpa using this) (by simpa using hb)
theorem findSome_no {α β : Type} {f : α → Option β} {l : List α} (hno : ∀ j (hj : j < l.length), f l[j] = none) : l.findSome? f = none := by
  rw [List.findSome?_eq_none_iff]
  intro x hx
  obtain ⟨j, hj, rfl⟩ := List.mem_iff_getElem.1 hx
  exact hno j hj
def OutPost (w : World) (r : Option Int) (e : Ending) (w' : World) : Prop := e = .returned (.tuple #[.int .i64 (r.getD 0), .bool r.isSome]) ∧ Keeps [] w w'
set_option maxRecDepth 100000 in
set_option maxHeartbeats 4000000 in
theorem outR_c (w : World) (v : Value) (Y : List Ans) (m cl : Int) (n : Nat) (h : RdA w v Y) :
    Calls Try.prog 48 #[v, .int .i64 m, .int .i64 cl, .int .u64 n] w (OutPost w (outL Y (m, cl, n))) := by
  obtain ⟨a, c, rfl, hlc, hcm⟩ := h.form
  have hel := fun k hk => h.elem (k := k) hk
  obtain ⟨M, hM⟩ : ∃ N, Y.length = N := ⟨_, rfl⟩
  rw [hM] at hlc ⊢
  have hMm : M ≤ 9223372036854775807 := by unfold maxLen at hcm; omega
  obtain ⟨r, hr⟩ : ∃ r, outL Y (m, cl, n) = r := ⟨_, rfl⟩
  rw [hr]
  rw [outL_def] at hr
  replace hel := Lib.hid hel
  replace hM := Lib.hid hM
  replace hr := Lib.hid hr
  clear h
  go_enter Try.func48, Try.ntmps48
  go_wp2
  go_loopw [10] (fun i wr => ∃ k : Nat, i = .int .i64 k ∧ k ≤ M ∧ Hid (∀ j (hj : j < Y.length), j < k → Y[j].ins.findSome? (insF Y[j] (m, cl, n)) = none) ∧ Hid (Keeps [] w wr)) (fun i _ => M - (intOf i).toNat)
  case atStart => exact ⟨0, rfl, by omega, Lib.hid (fun _ _ h => by omega), Lib.hid (Keeps.refl _ _)⟩
  case round =>
    obtain ⟨k, rfl, hk, hno, hkw⟩ := hrel
    by_cases hlt : k < M
    · have hkl : k < Y.length := by rw [hM.out]; exact hlt
      obtain ⟨g, o, c', x, hv, hx, he⟩ := hel.out k hkl
      rw [hM.out] at hv
      cases hv
      have m0 := hx.m
      have hxi := hx.ins
      have hxif := hx.ins.form
      obtain ⟨x0, x1, x2, x3, x4, x5, x6, x7, x8, x9⟩ := x
      simp only [AnV.v] at hxi hxif m0
      have hx8 : Y[k].ins.length = x8 := by obtain ⟨_, _, e, _⟩ := hxif; simp only [Value.slice.injEq] at e; exact e.2.1.symm
      have hx8m : x8 ≤ 9223372036854775807 := by obtain ⟨_, c2, e, h1, h2, _⟩ := hxif; rw [hx8] at h1; unfold maxLen at h2; omega
      obtain ⟨A, hA⟩ : ∃ A, Y[k] = A := ⟨_, rfl⟩
      rw [hA] at hxi m0 hx8
      have he0 := he 0 _ rfl
      have he7 := he 7 _ rfl
      simp only [AnV.v, Nat.add_zero] at he0 he7
      replace m0 := Lib.hid m0
      replace hxi := Lib.hid hxi
      replace hx8 := Lib.hid hx8
      replace he0 := Lib.hid he0
      replace he7 := Lib.hid he7
      replace hA := Lib.hid hA
      clear hxif he hx
      go_wp2
      go_loopw [11] (fun i wl => ∃ j : Nat, i = .int .i64 j ∧ j ≤ x8 ∧ Hid (∀ i (hi : i < A.ins.length), i < j → insF A (m, cl, n) A.ins[i] = none) ∧ Hid (Keeps [] w wl)) (fun i _ => x8 - (intOf i).toNat)
      case atStart => exact ⟨0, rfl, by omega, Lib.hid (fun _ _ h => by omega), hkw⟩
      case round =>
        obtain ⟨j, rfl, hj, hnoj, hkj⟩ := hrel
        have e0 := hkj.out.val he0.out
        have e7 := hkj.out.val he7.out
        by_cases hltj : j < x8
        · have hjl : j < A.ins.length := by rw [hx8.out]; exact hltj
          obtain ⟨g3, o3, c3, hv3, he3⟩ := hxi.out.elem hjl
          rw [hx8.out] at hv3
          cases hv3
          obtain ⟨⟨p0, p1, p2⟩, hp3⟩ : ∃ x, A.ins[j] = x := ⟨_, rfl⟩
          rw [hp3] at he3
          have f0 := hkj.out.val (he3 0 _ rfl)
          have f1 := hkj.out.val (he3 1 _ rfl)
          have f2 := hkj.out.val (he3 2 _ rfl)
          simp only [shT, Nat.add_zero] at f0 f1 f2
          have hlt0 := lt_of_cell e0
          have hkP : Keeps [] w (wr.alloc (.cells #[.int .i64 p0, .int .u64 p1, .int .i64 p2] tI)) := hkj.out.alloc _
          have hno2 : ¬ (x0 = m ∧ p0 = cl ∧ p1 = n) → ∀ i (hi : i < A.ins.length), i < j + 1 → insF A (m, cl, n) A.ins[i] = none := fun hn i hi hij => by
            by_cases e : i = j
            · subst e
              rw [hp3]
              unfold insF
              rw [if_neg (fun h => hn ⟨by rw [m0.out]; exact h.1, h.2.1, h.2.2⟩)]
            · exact hnoj.out i hi (by omega)
          replace hno2 := Lib.hid hno2
          replace hkP := Lib.hid hkP
          replace hp3 := Lib.hid hp3
          clear he3
          by_cases a0 : x0 = m
          · have b0 : (x0 == m) = true := by simpa using a0
            by_cases a1 : p0 = cl
            · have b1 : (p0 == cl) = true := by simpa using a1
              by_cases a2 : p1 = n
              · have b2 : ((p1 : Int) == (n : Int)) = true := by simp [a2]
                have hins : A.ins.findSome? (insF A (m, cl, n)) = some p2 := findSome_at hjl hnoj.out (by rw [hp3.out]; unfold insF; rw [if_pos ⟨by rw [← m0.out]; exact a0, a1, a2⟩])
                have hd : r = some p2 := by
                  rw [← hr.out]
                  exact findSome_at hkl hno.out (by rw [hA.out]; exact hins)
                replace a0 := Lib.hid a0
                replace a1 := Lib.hid a1
                replace a2 := Lib.hid a2
                replace hd := Lib.hid hd
                clear hins
                go_wp2
                go_ret2
                exact ⟨by rw [hd.out]; rfl, hkP.out⟩
              · have b2 : ((p1 : Int) == (n : Int)) = false := by simp; omega
                have h2 := Lib.hid (hno2.out (fun h => a2 h.2.2))
                replace a0 := Lib.hid a0
                replace a1 := Lib.hid a1
                replace a2 := Lib.hid a2
                go_wp2
                go_roundw
                case rel => exact ⟨j + 1, rfl, by omega, h2, hkP⟩
                case measure => simp [intOf]; omega
            · have b1 : (p0 == cl) = false := by simpa using a1
              have h2 := Lib.hid (hno2.out (fun h => a1 h.2.1))
              replace a0 := Lib.hid a0
              replace a1 := Lib.hid a1
              go_wp2
              go_roundw
              case rel => exact ⟨j + 1, rfl, by omega, h2, hkP⟩
              case measure => simp [intOf]; omega
          · have b0 : (x0 == m) = false := by simpa using a0
            have h2 := Lib.hid (hno2.out (fun h => a0 h.1))
            replace a0 := Lib.hid a0
            go_wp2
            go_roundw
            case rel => exact ⟨j + 1, rfl, by omega, h2, hkP⟩
            case measure => simp [intOf]; omega
        · have hno3 : ∀ j (hj : j < Y.length), j < k + 1 → Y[j].ins.findSome? (insF Y[j] (m, cl, n)) = none := fun i hi hik => by
            by_cases e : i = k
            · subst e
              rw [hA.out]
              exact findSome_no (fun i hi => hnoj.out i hi (by rw [hx8.out] at hi; omega))
            · exact hno.out i hi (by omega)
          replace hno3 := Lib.hid hno3
          go_wp2
          go_roundw
          case rel => exact ⟨k + 1, rfl, by omega, hno3, hkj⟩
          case measure => simp [intOf]; omega
    · have hd : r = none := by rw [← hr.out]; exact findSome_no (fun j hj => hno.out j hj (by rw [hM.out] at hj; omega))
      replace hd := Lib.hid hd
      go_wp2
      go_ret2
      exact ⟨by rw [hd.out]; rfl, hkw.out⟩
end Go.Proofs.Ythfdngjbcgkkfaa

namespace Go.Proofs.Ythfdngjbcgkkfaa
open Go Go.RowKit

theorem run_append_empty {P : Program} {w : World} (base : Nat) (t ty e : TypeId) (i : TypeInfo) (z : Value) (size bytes : Nat) (ht : P.underlying t = some (.slice e)) (hi : P.info? e = some i) (hz : i.zero = some z)
    (hsize : i.size = size) (hby : i.bytes = bytes) (hzs : z.cells.size = size) (g : Nat) (hg : w.heap[g]? = some (.cells #[] e (0, 0))) (hgb : base ≤ g)
    (v2 : Value) (m : Nat) (ys : List Value) (hsl : Sl w size v2 m ys) (h1 : ∀ u ∈ ys, u.oneCell' = true) (h63 : m ≤ maxLen) (hbytes : m * bytes ≤ 140737488355328) (hbase : base ≤ w.heap.size) :
    ∃ v' w', (Builtin.append_ #[t, t] ty #[.slice (some ⟨g, 0, none⟩) 0 0, v2]).run P w = .ok v' w' ∧ w'.ownsRow base e size v' m ys ∧ w.grownBy w' none := by
  have hown : w.ownsRow base e size (.slice (some ⟨g, 0, none⟩) 0 0) 0 [] := ⟨by simp, .inr ⟨g, 0, #[], rfl, hgb, hg, Nat.le_refl _, by simp [maxLen], by simp, by simp⟩⟩
  subst hsize
  subst hby
  obtain ⟨hl, a, cap, rfl, _, _, h0, hc⟩ := hsl
  cases a with
  | none =>
    have hys : ys = [] := by
      cases ys with
      | nil => rfl
      | cons y r => obtain ⟨g, o, e, _⟩ := hc (by simp); cases e
    subst hys
    have hcap := h0 rfl
    subst hcap
    have hm : m = 0 := by omega
    subst hm
    exact ⟨_, w, run_append_owned_none (P := P) (w := w) base t ty e i i.size ht hi _ 0 [] hown, hown, ⟨rfl, rfl, rfl, Nat.le_refl _, fun _ _ _ => rfl⟩⟩
  | some ad =>
    have hcells : ∀ j u, ys[j]? = some u → w.cell? (ad.add j) = some u := by
      intro j u hj
      have hp : 0 < ys.length := by have := (List.getElem?_eq_some_iff.1 hj).1; omega
      obtain ⟨g, o, e, hc'⟩ := hc hp
      cases e
      rw [Go.WideShapes.add_plain]
      exact hc' j u hj
    by_cases hm : m = 0
    · subst hm
      have hys : ys = [] := List.eq_nil_of_length_eq_zero (by simpa using hl)
      subst hys
      have hr := run_append_room (P := P) w t ty e i ht hi g 0 0 #[] hg ad 0 cap [] (by simp) (by simp) (by simp) (by omega) (by simp)
      have hset := setRow_heap w g #[] (([] : List Value).take (0 * i.size) ++ [] ++ ([] : List Value).drop (0 * i.size + ([] : List Value).length)).toArray e (0, 0) hg
      refine ⟨_, _, hr, ⟨by simp, .inr ⟨g, 0, _, rfl, hgb, hset, Nat.le_refl _, by simp [maxLen], by simp, by simp⟩⟩, ⟨rfl, rfl, rfl, by simp, fun k hk _ => ?_⟩⟩
      by_cases hkg : k = g
      · subst hkg
        rw [hg]
        simpa using hset
      · exact setRow_other w g k _ hkg
    · have hr := run_append_grow (P := P) w t ty e i z ht hi hz ⟨g, 0, none⟩ 0 0 [] (by simp) (by simp) ad m cap ys hl hcells (by omega) (by simp only [maxLen] at h63; omega) (growslice_fits (by omega) (by simpa using hbytes))
      have hge := grownCap_ge w (0 + m) 0 e
      have hcm : grownCap w (0 + m) 0 e ≤ maxLen := grownCap_le_maxLen w (0 + m) 0 e (by omega)
      refine ⟨_, _, hr, ?_, ⟨rfl, rfl, rfl, by simp, fun k hk _ => heap_alloc_old w.drew _ hk⟩⟩
      simp only [Nat.zero_add] at hge hcm ⊢
      refine ⟨hl, .inr ⟨w.heap.size, _, _, rfl, hbase, heap_alloc_new w.drew _, hge, hcm, ?_, ?_⟩⟩
      · simp only [Array.size_append, List.size_toArray, size_zeroCells, hzs, hl, List.length_nil, Nat.zero_add, ← Nat.add_mul]
        congr 1
        omega
      · simp only [Array.toList_append, List.nil_append, List.append_assoc, ← hl]
        exact List.take_left
/-- `append(v, v2...)` onto an empty slice without room: nothing that was there is written. -/
theorem Sh.loud_app0 {α : Type} {P : Program} {o : Oper} {a : Act} {w : World} {R : Value → World → Prop} (s : Sh α) (B : Nat) {e t : TypeId} {z : Value} {by_ : Nat} (hinf : (P.info? e).map (fun i => (i.zero, i.size, i.bytes)) = some (some z, s.sz, by_)) (hz : z.cells.size = s.sz) (ht : P.underlying t = some (.slice e))
    (g : Nat) (v2 : Value) (M : List α) (x y : Operand) (ho : o.op = .call { callee := .builtin .append, args := #[x, y], argTypes := #[t, t] }) (hs : a.eval x = .slice (some ⟨g, 0, none⟩) 0 0) (hx : a.eval y = v2) (hg : w.heap[g]? = some (.cells #[] e (0, 0))) (hgb : B ≤ g) (hsl : s.R w v2 M)
    (hl : M.length * (by_ + 1) ≤ 140737488355328) (hB : B ≤ w.heap.size) (hR : ∀ v' w', s.O w' B e v' M → w.grownBy w' none → R v' w') : Free.Loud P o a w R := by
  obtain ⟨i0, hi, hz0, hz1, hz2⟩ := info_parts hinf
  have h1 : M.length ≤ M.length * (by_ + 1) := Nat.le_mul_of_pos_right _ (by omega)
  have h2 : M.length * by_ ≤ M.length * (by_ + 1) := Nat.mul_le_mul_left _ (by omega)
  obtain ⟨v', w', hr, h3, h4⟩ := run_append_empty (P := P) B t o.type e i0 z s.sz by_ ht hi hz0 hz1 hz2 hz g hg hgb v2 M.length (s.cs M) hsl (Sh.cs_one M) (by unfold maxLen; omega) (by omega) hB
  unfold Free.Loud execOp
  simp only [ho, resolve, invoke, builtin, Sem.run_bind, Sem.run_pure, Result.andThen_ok, List.map_toArray, List.map_cons, List.map_nil, hs, hx, hr]
  exact hR v' w' h3 h4
theorem Sh.loud_app {α : Type} {P : Program} {o : Oper} {a : Act} {w : World} {R : Value → World → Prop} (s : Sh α) (B : Nat) {e t : TypeId} {z : Value} {by_ : Nat} (hinf : (P.info? e).map (fun i => (i.zero, i.size, i.bytes)) = some (some z, s.sz, by_)) (hz : z.cells.size = s.sz) (ht : P.underlying t = some (.slice e))
    (v v2 : Value) (L M : List α) (x y : Operand) (ho : o.op = .call { callee := .builtin .append, args := #[x, y], argTypes := #[t, t] }) (hs : a.eval x = v) (hx : a.eval y = v2) (h : s.O w B e v L) (hsl : s.R w v2 M)
    (hl : (L.length + M.length) * (by_ + 1) ≤ 140737488355328) (hB : B ≤ w.heap.size) (hR : ∀ v' w', s.O w' B e v' (L ++ M) → Grw w w' v v' → R v' w') : Free.Loud P o a w R := by
  obtain ⟨i0, hi, hz0, hz1, hz2⟩ := info_parts hinf
  have h1 : L.length + M.length ≤ (L.length + M.length) * (by_ + 1) := Nat.le_mul_of_pos_right _ (by omega)
  have h2 : (L.length + M.length) * by_ ≤ (L.length + M.length) * (by_ + 1) := Nat.mul_le_mul_left _ (by omega)
  obtain ⟨v', w', hr, h3, h4, _⟩ := run_append_x (P := P) B t o.type e i0 z s.sz by_ ht hi hz0 hz1 hz2 hz s.pos v L.length (s.cs L) h v2 M.length (s.cs M) hsl (Sh.cs_one M) (by unfold maxLen; omega) (by omega) hB
  unfold Free.Loud execOp
  simp only [ho, resolve, invoke, builtin, Sem.run_bind, Sem.run_pure, Result.andThen_ok, List.map_toArray, List.map_cons, List.map_nil, hs, hx, hr]
  refine hR v' w' ?_ h4
  unfold Sh.O
  rw [Sh.cs_append, List.length_append]
  exact h3
theorem Sh.O.keepP {α : Type} {s : Sh α} {w w' : World} {B : Nat} {e : TypeId} {v : Value} {L : List α} {S : Nat → Prop} (h : s.O w B e v L) (hk : Free.KeepsP S w w') (hS : ∀ g, v.ownBlock = some g → ¬ S g) : s.O w' B e v L := by
  refine ⟨h.1, ?_⟩
  rcases h.2 with hn | ⟨g, cap, cur, rfl, hb, hg, rest⟩
  · exact .inl hn
  · exact .inr ⟨g, cap, cur, rfl, hb, (hk.block g (Array.getElem?_eq_some_iff.1 hg).1 (hS g rfl)).trans hg, rest⟩
namespace Ins
variable {α : Type}
/-- What holds behind each operation: 0 makes the empty slice, A appends the first part, M makes the slice of one, A2 appends it, A3 the rest (A3 = A2: there is none). -/
def F (s : Sh α) (A M A2 A3 : Nat) (B0 : Nat) (e : TypeId) (L1 : List α) (x : α) (L2 : List α) (i : Nat) (v : Value) (w : World) : Prop :=
  (i = 0 → ∃ g, v = .slice (some ⟨g, 0, none⟩) 0 0 ∧ B0 ≤ g ∧ w.heap[g]? = some (.cells #[] e (0, 0))) ∧ (i = A → s.O w B0 e v L1) ∧ (i = M → s.R w v [x] ∧ s.O w B0 e v [x]) ∧ (i = A2 → s.O w B0 e v (L1 ++ [x])) ∧ (i = A3 → A3 ≠ A2 → s.O w B0 e v (L1 ++ [x] ++ L2))
def T (A2 A3 B0 : Nat) (k b : Nat) : Prop := (k = A2 ∨ k = A3) ∧ B0 ≤ b
def K (A2 A3 : Nat) (k i : Nat) : Bool := (k == A2 && i != A3 && i != A2) || (k == A3 && i != A3)
theorem keepF {s : Sh α} {A M A2 A3 : Nat} {B0 : Nat} {e : TypeId} {L1 : List α} {x : α} {L2 : List α} {i : Nat} {v : Value} {w w' : World} (h : F s A M A2 A3 B0 e L1 x L2 i v w) (hk : Free.KeepsP (fun _ => False) w w') : F s A M A2 A3 B0 e L1 x L2 i v w' := by
  obtain ⟨h0, h1, h2, h3, h4⟩ := h
  refine ⟨fun hi => ?_, fun hi => (h1 hi).keepP hk (by simp), fun hi => ?_, fun hi => (h3 hi).keepP hk (by simp), fun hi hn => (h4 hi hn).keepP hk (by simp)⟩
  · obtain ⟨g, e1, e2, e3⟩ := h0 hi
    exact ⟨g, e1, e2, (hk.block g (Array.getElem?_eq_some_iff.1 e3).1 (by simp)).trans e3⟩
  · have := (h2 hi).2.keepP hk (by simp)
    exact ⟨this.r, this⟩
theorem stable {s : Sh α} {A M A2 A3 : Nat} {B0 : Nat} {e : TypeId} {L1 : List α} {x : α} {L2 : List α} {ops : Array Oper} {loud : Nat → Bool} (hpre : A3 = A2 ∨ Free.pre ops A2 A3 = true) :
    ∀ i k v w w', loud i = true → i ≠ k → K A2 A3 k i = false → Free.pre ops k i = false → F s A M A2 A3 B0 e L1 x L2 i v w → Free.KeepsP (T A2 A3 B0 k) w w' → F s A M A2 A3 B0 e L1 x L2 i v w' := by
  intro i k v w w' _ hne hK hp hF hk
  by_cases h2 : k = A2
  · subst h2
    by_cases h3 : i = A3
    · subst h3
      rcases hpre with e | e
      · exact absurd e hne
      · rw [hp] at e; cases e
    · exfalso
      unfold K at hK
      simp only [beq_self_eq_true, Bool.true_and, Bool.or_eq_false_iff] at hK
      have h4 := hK.1
      simp [h3, hne] at h4
  · by_cases h3 : k = A3
    · subst h3
      exfalso
      unfold K at hK
      simp [hne] at hK
    · exact keepF hF (hk.mono (fun b hb => by rcases hb.1 with e | e; exact h2 e; exact h3 e))
def Nums (A M A2 A3 : Nat) : Prop := A ≠ 0 ∧ M ≠ 0 ∧ A2 ≠ 0 ∧ A3 ≠ 0 ∧ A ≠ M ∧ A ≠ A2 ∧ A ≠ A3 ∧ M ≠ A2 ∧ M ≠ A3
theorem R_keepP {s : Sh α} {w w' : World} {v : Value} {L : List α} {S : Nat → Prop} (h : s.R w v L) (hk : Free.KeepsP S w w') (hS : ∀ b, S b → w.heap.size ≤ b) : s.R w' v L :=
  Sl.keep h fun b o hb => .inl (hk.cell b o hb (fun h => by have := hS b h; omega))
theorem O_le {s : Sh α} {w : World} {B B' e : Nat} {v : Value} {L : List α} (h : s.O w B e v L) (hb : B' ≤ B) : s.O w B' e v L := by
  refine ⟨h.1, ?_⟩
  rcases h.2 with hn | ⟨g, cap, cur, rfl, h1, rest⟩
  · exact .inl hn
  · exact .inr ⟨g, cap, cur, rfl, Nat.le_trans hb h1, rest⟩
theorem fE {s : Sh α} {A M A2 A3 : Nat} {B0 : Nat} {e : TypeId} {L1 : List α} {x : α} {L2 : List α} (hn : Nums A M A2 A3) {w : World} (hw : B0 ≤ w.heap.size) : F s A M A2 A3 B0 e L1 x L2 0 (.slice (some ⟨w.heap.size, 0, none⟩) 0 0) (w.alloc (.cells #[] e)) ∧ Free.KeepsP (T A2 A3 B0 0) w (w.alloc (.cells #[] e)) := by
  obtain ⟨h1, h2, h3, h4, _⟩ := hn
  exact ⟨⟨fun _ => ⟨_, rfl, hw, heap_alloc_new w _⟩, fun h => absurd h.symm h1, fun h => absurd h.symm h2, fun h => absurd h.symm h3, fun h => absurd h.symm h4⟩, Free.KeepsP.alloc _ _ _⟩
theorem fM {s : Sh α} {A M A2 A3 : Nat} {B0 : Nat} {e : TypeId} {L1 : List α} {x : α} {L2 : List α} (hn : Nums A M A2 A3) {w : World} (hw : B0 ≤ w.heap.size) (xs : Array Value) (hx : xs.toList = s.cf x) : F s A M A2 A3 B0 e L1 x L2 M (.slice (some ⟨w.heap.size, 0, none⟩) 1 1) (w.alloc (.cells xs e)) ∧ Free.KeepsP (T A2 A3 B0 M) w (w.alloc (.cells xs e)) := by
  obtain ⟨h1, h2, h3, h4, h5, h6, h7, h8, h9⟩ := hn
  have hl : xs.size = s.sz := by rw [← Array.length_toList, hx]; exact s.len x
  have hO : s.O (w.alloc (.cells xs e)) B0 e (.slice (some ⟨w.heap.size, 0, none⟩) 1 1) [x] := by
    refine ⟨by simp [Sh.cs, s.len], .inr ⟨w.heap.size, 1, xs, rfl, hw, heap_alloc_new w _, Nat.le_refl _, by simp [maxLen], by simpa using hl, ?_⟩⟩
    rw [List.take_of_length_le (by simp [hl]), hx]
    simp [Sh.cs]
  exact ⟨⟨fun h => absurd h h2, fun h => absurd h.symm h5, fun _ => ⟨hO.r, hO⟩, fun h => absurd h h8, fun h => absurd h h9⟩, Free.KeepsP.alloc _ _ _⟩
section
variable {P : Program} {o : Oper} {a : Act} {w w0 : World} {s : Sh α} {A M A2 A3 : Nat} {e t : TypeId} {L1 : List α} {x : α} {L2 : List α} {z : Value} {by_ : Nat}
theorem lA {S : Nat → Prop} (hn : Nums A M A2 A3) (hinf : (P.info? e).map (fun i => (i.zero, i.size, i.bytes)) = some (some z, s.sz, by_)) (hz : z.cells.size = s.sz) (ht : P.underlying t = some (.slice e)) {v0 v2 : Value} (hk : Free.KeepsP S w0 w) (hS : ∀ b, S b → w0.heap.size ≤ b) (h0 : F s A M A2 A3 w0.heap.size e L1 x L2 0 v0 w) (hR : s.R w0 v2 L1) (p q : Operand)
    (ho : o.op = .call { callee := .builtin .append, args := #[p, q], argTypes := #[t, t] }) (hs : a.eval p = v0) (hx : a.eval q = v2) (hl : L1.length * (by_ + 1) ≤ 140737488355328) : Free.Loud P o a w (fun v w' => F s A M A2 A3 w0.heap.size e L1 x L2 A v w' ∧ Free.KeepsP (T A2 A3 w0.heap.size A) w w') := by
  obtain ⟨h1, h2, h3, h4, h5, h6, h7, h8, h9⟩ := hn
  obtain ⟨g, rfl, hg0, hgc⟩ := h0.1 rfl
  refine Sh.loud_app0 s w0.heap.size hinf hz ht g v2 L1 p q ho hs hx hgc hg0 (R_keepP hR hk hS) hl hk.size ?_
  intro v' w' hO hgr
  exact ⟨⟨fun h => absurd h h1, fun _ => hO, fun h => absurd h h5, fun h => absurd h h6, fun h => absurd h h7⟩, Free.KeepsP.grown hgr (by simp)⟩
theorem lA2 {S : Nat → Prop} (hn : Nums A M A2 A3) (hinf : (P.info? e).map (fun i => (i.zero, i.size, i.bytes)) = some (some z, s.sz, by_)) (hz : z.cells.size = s.sz) (ht : P.underlying t = some (.slice e)) {vA vM : Value} (hk : Free.KeepsP S w0 w) (hA : F s A M A2 A3 w0.heap.size e L1 x L2 A vA w) (hM : F s A M A2 A3 w0.heap.size e L1 x L2 M vM w) (p q : Operand)
    (ho : o.op = .call { callee := .builtin .append, args := #[p, q], argTypes := #[t, t] }) (hs : a.eval p = vA) (hx : a.eval q = vM) (hl : (L1.length + 1) * (by_ + 1) ≤ 140737488355328) : Free.Loud P o a w (fun v w' => F s A M A2 A3 w0.heap.size e L1 x L2 A2 v w' ∧ Free.KeepsP (T A2 A3 w0.heap.size A2) w w') := by
  obtain ⟨h1, h2, h3, h4, h5, h6, h7, h8, h9⟩ := hn
  have hOA := hA.2.1 rfl
  refine Sh.loud_app s w0.heap.size hinf hz ht vA vM L1 [x] p q ho hs hx hOA (hM.2.2.1 rfl).1 hl hk.size ?_
  intro v' w' hO hgr
  exact ⟨⟨fun h => absurd h h3, fun h => absurd h.symm h6, fun h => absurd h.symm h8, fun _ => hO, fun h hne => absurd h.symm hne⟩, Free.KeepsP.grown hgr.grown (fun b hb => ⟨.inl rfl, hOA.ge b hb⟩)⟩
theorem lA3 {S : Nat → Prop} (hn : Nums A M A2 A3) (h23 : A3 ≠ A2) (hinf : (P.info? e).map (fun i => (i.zero, i.size, i.bytes)) = some (some z, s.sz, by_)) (hz : z.cells.size = s.sz) (ht : P.underlying t = some (.slice e)) {vA v2 : Value} (hk : Free.KeepsP S w0 w) (hS : ∀ b, S b → w0.heap.size ≤ b) (hA : F s A M A2 A3 w0.heap.size e L1 x L2 A2 vA w) (hR : s.R w0 v2 L2) (p q : Operand)
    (ho : o.op = .call { callee := .builtin .append, args := #[p, q], argTypes := #[t, t] }) (hs : a.eval p = vA) (hx : a.eval q = v2) (hl : (L1.length + 1 + L2.length) * (by_ + 1) ≤ 140737488355328) : Free.Loud P o a w (fun v w' => F s A M A2 A3 w0.heap.size e L1 x L2 A3 v w' ∧ Free.KeepsP (T A2 A3 w0.heap.size A3) w w') := by
  obtain ⟨h1, h2, h3, h4, h5, h6, h7, h8, h9⟩ := hn
  have hOA := hA.2.2.2.1 rfl
  refine Sh.loud_app s w0.heap.size hinf hz ht vA v2 (L1 ++ [x]) L2 p q ho hs hx hOA (R_keepP hR hk hS) (by rw [List.length_append, List.length_singleton]; exact hl) hk.size ?_
  intro v' w' hO hgr
  exact ⟨⟨fun h => absurd h h4, fun h => absurd h.symm h7, fun h => absurd h.symm h9, fun h => absurd h h23, fun _ _ => hO⟩, Free.KeepsP.grown hgr.grown (fun b hb => ⟨.inr rfl, hOA.ge b hb⟩)⟩
end
theorem low {ops : Array Oper} {A2 A3 B0 i b : Nat} (h : Free.sx ops (T A2 A3 B0) i b) : B0 ≤ b := by obtain ⟨k, _, _, h⟩ := h; exact h.2
theorem lowA {A2 A3 B0 b : Nat} (h : Free.sa (T A2 A3 B0) b) : B0 ≤ b := by obtain ⟨k, h⟩ := h; exact h.2
end Ins
end Go.Proofs.Ythfdngjbcgkkfaa
