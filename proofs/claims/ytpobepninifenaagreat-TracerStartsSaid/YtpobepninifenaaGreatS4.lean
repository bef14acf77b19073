/- Texts that the laws lean on, in the order in which they build. Trace.Answer. Identities, needs and answers among a law's arguments, opened. Trace.Queries. The specification's trace: its value, what it says; New, answered, index. The specification's New and Queries. An element of eight cells is stored into an owned list. The lists of the specification's Answer: an answer recorded, a question opened; answers and history. -/
import Derived.Test.YtpobepninifenaaGreatS3
import Derived.Laws.Rows
set_option linter.unusedVariables false
set_option linter.unusedSimpArgs false
namespace Go.Proofs.YtpobepninifenaaGreat
open Go.RowKit

/-- The cells of an answer that comes in say this answer. -/
structure InR (w : World) (x : AnV) (y : Ans) : Prop where
  m : x.m = y.m
  ow : x.ow = y.ow
  n : x.n = y.n
  ep : x.ep = y.ep
  kn : x.kn = y.kn
  rt : x.rt = y.rt
  lu : x.lu = y.lu
  ins : shT.R w x.v y.ins
theorem Sh.R.keepE {α : Type} {s : Sh α} {w w' : World} {v : Value} {L : List α} {S : List Nat} (h : s.R w v L) (hk : Keeps S w w') (hS : ∀ b ∈ S, L ≠ [] → v.ownBlock ≠ some b) : s.R w' v L := by
  by_cases e : L = []
  · subst e
    obtain ⟨h1, a, cap, rfl, h2, h3, h0, _⟩ := h
    exact ⟨h1, a, cap, rfl, h2, h3, h0, fun hp => by simp [Sh.cs] at hp⟩
  · exact h.keepS hk (fun b hb => hS b hb e)
def AnsPost (w : World) (B bt bm : Nat) (vo vh vg : Value) (r : Tr × Int) (e : Ending) (w' : World) : Prop :=
  ∃ vo' vh', e = .returned (.int .i64 r.2) ∧ TrM w' B bt bm vo' vh' vg r.1 ∧ Mv (ownT bt bm vo vh vg) (ownT bt bm vo' vh' vg) w w'
theorem InR.keep {w w' : World} {x : AnV} {y : Ans} {S : List Nat} (h : InR w x y) (hk : Keeps S w w') (hS : ∀ b ∈ S, x.v.ownBlock ≠ some b) : InR w' x y := ⟨h.m, h.ow, h.n, h.ep, h.kn, h.rt, h.lu, h.ins.keepS hk hS⟩
theorem keepsP_remade {S : Nat → Prop} (w : World) (A B : Obj) (hS : S w.heap.size) : Free.KeepsP S (w.alloc A) (w.alloc B) :=
  ⟨rfl, rfl, rfl, by simp, fun k hk hn => by
    have hk' : k < w.heap.size + 1 := by simpa using hk
    have hne : k ≠ w.heap.size := fun e => hn (e ▸ hS)
    rw [Below.heap_alloc _ _ _ (by omega), Below.heap_alloc _ _ _ (by omega)]⟩
theorem Free.KeepsP.drews {S : Nat → Prop} {a b : World} (h : Free.KeepsP S a b) : Free.KeepsP S a.drew b.drew := ⟨h.os, h.tape, h.output, h.size, h.block⟩
/-- What the map of the answers says of a question. -/
theorem LR.open {w : World} {R : List (Qn × AnV)} {t : Tr} {q : Qn} (h : LR w R t.rec') (hnd : t.op.Nodup) : ((MapS.get q R).isSome = true → isOpen q t.qs = false) ∧ ((MapS.get q R).isSome = false → isOpen q t.qs = decide (q ∈ t.op)) := by
  constructor
  · intro hs
    rcases h.2 q with ⟨h1, _⟩ | ⟨x, y, h1, h2, _⟩
    · rw [h1] at hs; cases hs
    · have hm := (get_rec hnd q y).1 h2
      cases ho : isOpen q t.qs with
      | false => rfl
      | true => have := nd_val hnd hm (isOpen_mem.1 ho); cases this
  · intro hs
    rcases h.2 q with ⟨h1, h2⟩ | ⟨x, y, h1, h2, _⟩
    · unfold isOpen
      rw [decide_eq_decide]
      constructor
      · exact fun hm => List.mem_map.2 ⟨_, hm, rfl⟩
      · intro hm
        obtain ⟨⟨k, u⟩, hm2, rfl⟩ := List.mem_map.1 hm
        cases u with
        | none => exact hm2
        | some b => rw [show MapS.get (k, some b).1 t.rec' = _ from (get_rec hnd k b).2 hm2] at h2; cases h2
    · rw [h1] at hs; cases hs
theorem TrM.histKI {w w' : World} {B bt bm : Nat} {vo vh vg vh' : Value} {t : Tr} (h : TrM w B bt bm vo vh vg t) (hG : Grw w w' vh vh') : KI w w' := by
  obtain ⟨X0, hX0, hX0L⟩ := h.hi
  exact hG.keepsO.ki (fun b hb cs f e => by
    obtain ⟨cs', hc⟩ := hX0.tag b (by simpa using hb)
    exact tag_ne hc e (by decide) rfl)
theorem LA.any {w : World} {m ep : Int} : ∀ {X : List AnV} {Y : List Ans}, LA w X Y → Y.any (Ans.odd m ep) = X.any (AnV.odd m ep)
  | [], [], _ => rfl
  | [], _ :: _, h => by have := h.1; simp at this
  | _ :: _, [], h => by have := h.1; simp at this
  | x :: X, y :: Y, h => by
    have ih := LA.any (X := X) (Y := Y) (m := m) (ep := ep) ⟨by have := h.1; simpa using this, fun k a b ha hb => h.2 (k + 1) a b (by simpa using ha) (by simpa using hb)⟩
    have h0 := h.2 0 x y rfl rfl
    rw [List.any_cons, List.any_cons, ih, Ans.odd, AnV.odd, h0.m, h0.ep]
/-- A trace whose answer is half in. -/
def Tr.mid (t : Tr) (a : Ans) (k : Nat) : Tr := { t.take a with qs := (a.ins.take k).foldl (openQ a.m) (setQ a.q a t.qs) }
theorem Tr.mid_all (t : Tr) (a : Ans) : t.mid a a.ins.length = (t.take a).put a := by unfold Tr.mid Tr.put; rw [List.take_length]; rfl
theorem Tr.mid_op (t : Tr) (a : Ans) (k : Nat) (h : t.qs.length + a.ins.length ≤ 1000) : (t.mid a k).op.length ≤ 1000 := by
  have h1 := fold_len a.m (a.ins.take k) (setQ a.q a t.qs)
  have h2 : (setQ a.q a t.qs).length = t.qs.length := by unfold setQ; simp
  have h3 : (a.ins.take k).length ≤ a.ins.length := by simp; omega
  unfold Tr.op Tr.mid
  simp only [List.length_map]
  omega
theorem Tr.mid_succ (t : Tr) (a : Ans) (k : Nat) (hk : k < a.ins.length) : t.mid a (k + 1) = { t.mid a k with qs := openQ a.m (t.mid a k).qs a.ins[k] } := by
  unfold Tr.mid
  rw [List.take_succ_eq_append_getElem hk, List.foldl_append]; rfl
theorem Tr.mid_old (t : Tr) (a : Ans) (k : Nat) (hk : k < a.ins.length) (h : (a.ins[k].1, a.m, a.ins[k].2.1) ∈ (t.mid a k).op) : t.mid a (k + 1) = t.mid a k := by
  rw [Tr.mid_succ t a k hk, show openQ a.m (t.mid a k).qs a.ins[k] = (t.mid a k).qs from if_pos h]
theorem Tr.mid_new (t : Tr) (a : Ans) (k : Nat) (hk : k < a.ins.length) (h : (a.ins[k].1, a.m, a.ins[k].2.1) ∉ (t.mid a k).op) : t.mid a (k + 1) = { t.mid a k with qs := (t.mid a k).qs ++ [((a.ins[k].1, a.m, a.ins[k].2.1), none)] } := by
  rw [Tr.mid_succ t a k hk, show openQ a.m (t.mid a k).qs a.ins[k] = _ from if_neg h]
set_option maxRecDepth 100000 in
set_option maxHeartbeats 10000000 in
theorem answer_c (w : World) (B bt bm : Nat) (vo vh vg : Value) (t : Tr) (x : AnV) (a : Ans) (h : TrM w B bt bm vo vh vg t) (hx : InR w x a) (ha : a.Ok) (hsep : ∀ b ∈ ownT bt bm vo vh vg, a.ins ≠ [] → x.v.ownBlock ≠ some b)
    (hB : B ≤ w.heap.size) (hl1 : t.hist.length ≤ 100000) (hl2 : t.qs.length + a.ins.length ≤ 1000) :
    Calls Tryz.prog 34 #[.pointer (some ⟨bt, 0, none⟩), aV x] w (AnsPost w B bt bm vo vh vg (t.answer a)) := by
  obtain ⟨X0, hX0⟩ : ∃ X, w.heap.size = X := ⟨_, rfl⟩
  obtain ⟨ao, co, rfl⟩ := h.op.form
  obtain ⟨ah, ch, rfl⟩ : ∃ a c, vh = .slice a t.hist.length c := by
    obtain ⟨X, hX, hXL⟩ := h.hi
    obtain ⟨a, c, e⟩ := hX.form
    exact ⟨a, c, by rw [e, hXL.1]⟩
  obtain ⟨LO, hLO⟩ : ∃ n, t.op.length = n := ⟨_, rfl⟩
  obtain ⟨LH, hLH⟩ : ∃ n, t.hist.length = n := ⟨_, rfl⟩
  rw [hLO, hLH] at h hsep ⊢
  replace hLO := Lib.hid hLO
  replace hLH := Lib.hid hLH
  obtain ⟨x0, x1, x2, x3, x4, x5, x6, x7, x8, x9⟩ := x
  obtain ⟨i1, i2, i3, i4, i5, i6, i7, hI⟩ := hx
  simp only [AnV.v] at i1 i2 i3 i4 i5 i6 i7 hI hsep
  subst i1 i2 i3 i4 i5 i6 i7
  have hkA : Keeps [] w (w.alloc (.cells #[.int .i64 a.m, .int .i64 a.ow, .int .u64 a.n, .int .i64 a.ep, .bool a.kn, .bool a.rt, .int .i64 a.lu, .slice x7 x8 x9] tA)) := (Keeps.refl _ _).alloc _
  have hb0 := heap_alloc_new w (.cells #[.int .i64 a.m, .int .i64 a.ow, .int .u64 a.n, .int .i64 a.ep, .bool a.kn, .bool a.rt, .int .i64 a.lu, .slice x7 x8 x9] tA)
  have hzA : (w.alloc (.cells #[.int .i64 a.m, .int .i64 a.ow, .int .u64 a.n, .int .i64 a.ep, .bool a.kn, .bool a.rt, .int .i64 a.lu, .slice x7 x8 x9] tA)).heap.size = w.heap.size + 1 := by simp
  have hA := h.keeps hkA
  have hIA := hI.keeps hkA
  obtain ⟨c0, c1, c2, c3, c4, c5, c6, c7, c8, c9, c10, c11⟩ := hA.cells
  have hlt := hA.lt
  have hlt0 := h.lt
  have hown0 : ∀ b ∈ ownT bt bm (.slice ao LO co) (.slice ah LH ch) vg, b < X0 := fun b hb => by have := (h.own_tag hb).2.1; omega
  replace hown0 := Lib.hid hown0
  simp only [aV, AnV.v]
  by_cases hs : t.state = 0
  case neg =>
    have hs1 : (t.state != 0) = true := by simpa using hs
    have hr : t.answer a = (t, 9) := by unfold Tr.answer; rw [if_pos hs]
    rw [hr]
    replace hs := Lib.hid hs
    replace hr := Lib.hid hr
    replace hA := Lib.hid hA
    replace hkA := Lib.hid hkA
    clear hb0 h hI hIA hsep c0 c1 c2 c3 c4 c5 c6 c7 c8 c10 c11
    go_enter Tryz.func34, Tryz.ntmps34
    go_wp2
    go_ret
    exact ⟨_, _, rfl, hA.out, .nil hkA.out⟩
  case pos =>
    rw [hs] at c9
    obtain ⟨R, hR, hRL⟩ := hA.mp
    obtain ⟨y0, y1, y2, y3, y4, y5, y6, y7, yf, ylt⟩ := cells8 hb0
    have hq0 : qOk a.q := ha.q
    rw [hX0] at hzA hb0 y0 y1 y2 y3 y4 y5 y6 y7 yf ylt hlt0
    have hlook := fun (w' : World) (hb : w'.heap[bm]? = (w.alloc (.cells #[.int .i64 a.m, .int .i64 a.ow, .int .u64 a.n, .int .i64 a.ep, .bool a.kn, .bool a.rt, .int .i64 a.lu, .slice x7 x8 x9] tA)).heap[bm]?) => MapS.M.look_ok ktQ (k := a.q) Tryz.underlying115 (aV .zero) zeroA (hR.at' hb) hq0
    obtain ⟨xv, hxv⟩ : ∃ xv : AnV, ((MapS.get a.q R).map aV).getD (aV .zero) = aV xv := by
      cases MapS.get a.q R with
      | none => exact ⟨_, rfl⟩
      | some u => exact ⟨u, rfl⟩
    obtain ⟨rb, hrb⟩ : ∃ rb, (MapS.get a.q R).isSome = rb := ⟨_, rfl⟩
    rw [hxv, hrb] at hlook
    obtain ⟨v0, v1, v2, v3, v4, v5, v6, v7, v8, v9⟩ := xv
    simp only [ktQ, qV, Ans.q, aV, AnV.v] at hlook
    replace hxv := Lib.hid hxv
    replace hrb := Lib.hid hrb
    replace hA := Lib.hid hA
    replace hkA := Lib.hid hkA
    replace hb0 := Lib.hid hb0
    replace hR := Lib.hid hR
    replace hRL := Lib.hid hRL
    replace hIA := Lib.hid hIA
    replace hs := Lib.hid hs
    replace hq0 := Lib.hid hq0
    replace hlook := Lib.hid hlook
    replace hX0 := Lib.hid hX0
    replace hsep := Lib.hid hsep
    clear h hI
    go_enter Tryz.func34, Tryz.ntmps34
    go_wp2
    generalize (w.alloc (.cells #[.int .i64 a.m, .int .i64 a.ow, .int .u64 a.n, .int .i64 a.ep, .bool a.kn, .bool a.rt, .int .i64 a.lu, .slice x7 x8 x9] tA)) = W at *
    rw [hX0.out]
    have hkB : Keeps [] W (W.alloc (.cells #[.int .i64 a.m, .int .i64 a.ow, .int .u64 a.n] tQ)) := (Keeps.refl _ _).alloc _
    have hbq := heap_alloc_new W (.cells #[.int .i64 a.m, .int .i64 a.ow, .int .u64 a.n] tQ)
    have hzB : (W.alloc (.cells #[.int .i64 a.m, .int .i64 a.ow, .int .u64 a.n] tQ)).heap.size = W.heap.size + 1 := by simp
    have hb01 := (hkB.block X0 (by omega) (by simp)).trans hb0.out
    have hA1 := hA.out.keeps hkB
    have hIA1 := hIA.out.keeps hkB
    have hR1 := hR.out.keeps ktQ hkB
    have hRL1 := hRL.out.ki hkB.ki0
    have hkAB := hkA.out.trans hkB
    have hbm1 := hkB.block bm hlt.2 (by simp)
    have hlook1 := fun (w' : World) hb => hlook.out w' (Eq.trans hb hbm1)
    generalize (W.alloc (.cells #[.int .i64 a.m, .int .i64 a.ow, .int .u64 a.n] tQ)) = W1 at *
    rw [hzA] at hbq hzB
    obtain ⟨d0, d1, d2, d3, d4, d5, d6, d7, d8, d9, d10, d11⟩ := hA1.cells
    rw [hs.out] at d9
    obtain ⟨y0, y1, y2, y3, y4, y5, y6, y7, yf, ylt⟩ := cells8 hb01
    obtain ⟨r0, r1, r2⟩ := cells3t hbq
    have hlt1 := hA1.lt
    replace hA1 := Lib.hid hA1
    replace hIA1 := Lib.hid hIA1
    replace hR1 := Lib.hid hR1
    replace hRL1 := Lib.hid hRL1
    replace hkAB := Lib.hid hkAB
    replace hlook1 := Lib.hid hlook1
    replace hbq := Lib.hid hbq
    replace hb01 := Lib.hid hb01
    clear hb0 hA hIA hR hRL hkA hkB hlook hbm1 hlt c0 c1 c2 c3 c4 c5 c6 c7 c8 c9 c10 c11 hzA
    refine Free.wp_region_chain (fun i => i == 9 || i == 10) (fun i => true) (fun j b => j = 10 ∧ W1.heap.size ≤ b) (by kernel_rfl) (by kernel_rfl) (by kernel_rfl) ?_
    (repeat (first | (apply Free.cw_pure rfl rfl; (intro w'; go_simp <;> exact rfl); go_frame) | (apply Free.cw_steady rfl rfl rfl; (intro w' hS2; have z0 := Free.sx_cell hS2 d7 (fun _ _ hT => by omega); have z1 := Free.sx_cell hS2 r0 (fun _ _ hT => by omega); have z2 := Free.sx_cell hS2 r1 (fun _ _ hT => by omega); have z3 := Free.sx_cell hS2 r2 (fun _ _ hT => by omega); have z5 := hlook1.out w' (hS2.block bm hlt1.2 (fun ⟨_, _, _, hT⟩ => by omega)); go_simp <;> exact rfl); go_frame)))
    refine Free.cw_loud rfl rfl (fun K hK => ?_)
    go_wp2
    refine hK _ _ rfl (Free.KeepsP.alloc _ _ _) ?_
    clear hK K
    (repeat (apply Free.cw_pure rfl rfl; (intro w'; go_simp <;> exact rfl); go_frame))
    refine Free.cw_loud rfl rfl (fun K hK => ?_)
    go_wp2
    refine hK _ _ rfl (keepsP_remade (S := fun b => True ∧ W1.heap.size ≤ b) W1 _ _ ⟨trivial, Nat.le_refl _⟩).drews ?_
    clear hK K
    (repeat (apply Free.cw_pure rfl rfl; (intro w'; go_simp <;> exact rfl); go_frame))
    refine Free.cw_nil ?_
    have hkC : Keeps [] W1 ((W1.alloc (.cells #[.int .i64 v0, .int .i64 v1, .int .u64 v2, .int .i64 v3, .bool v4, .bool v5, .int .i64 v6, .slice v7 v8 v9] tA)).drew) := ((Keeps.refl _ _).alloc _).drew
    have hb02 := (hkC.block X0 (by omega) (by simp)).trans hb01.out
    have hbq2 := (hkC.block (X0 + 1) (by omega) (by simp)).trans hbq.out
    have hA2 := hA1.out.keeps hkC
    have hIA2 := hIA1.out.keeps hkC
    have hR2 := hR1.out.keeps ktQ hkC
    have hRL2 := hRL1.out.ki hkC.ki0
    have hk02 := hkAB.out.trans hkC
    have hz2 : ((W1.alloc (.cells #[.int .i64 v0, .int .i64 v1, .int .u64 v2, .int .i64 v3, .bool v4, .bool v5, .int .i64 v6, .slice v7 v8 v9] tA)).drew).heap.size = X0 + 3 := by simp [hzB]
    generalize ((W1.alloc (.cells #[.int .i64 v0, .int .i64 v1, .int .u64 v2, .int .i64 v3, .bool v4, .bool v5, .int .i64 v6, .slice v7 v8 v9] tA)).drew) = W2 at *
    obtain ⟨d0, d1, d2, d3, d4, d5, d6, d7, d8, d9, d10, d11⟩ := hA2.cells
    rw [hs.out] at d9
    obtain ⟨y0, y1, y2, y3, y4, y5, y6, y7, yf, ylt⟩ := cells8 hb02
    obtain ⟨r0, r1, r2⟩ := cells3t hbq2
    have hlt2 := hA2.lt
    obtain ⟨hop1, hop2⟩ := hRL2.open (q := a.q) hA2.inv.nd
    rw [hrb.out] at hop1 hop2
    replace hA2 := Lib.hid hA2
    replace hIA2 := Lib.hid hIA2
    replace hR2 := Lib.hid hR2
    replace hRL2 := Lib.hid hRL2
    replace hk02 := Lib.hid hk02
    replace hbq2 := Lib.hid hbq2
    replace hb02 := Lib.hid hb02
    replace hop1 := Lib.hid hop1
    replace hop2 := Lib.hid hop2
    clear hb01 hbq hA1 hIA1 hR1 hRL1 hkAB hlook1 hkC hlt1 hzB
    cases rb with
    | true =>
      have hr : t.answer a = (t, 6) := by unfold Tr.answer; rw [if_neg (by simp [hs.out]), if_pos (hop1.out rfl)]
      replace hr := Lib.hid hr
      go_wp2
      refine Free.wp_region_chain (fun i => i == 7) (fun i => true) (fun _ _ => False) (by kernel_rfl) (by kernel_rfl) (by kernel_rfl) ?_
      (repeat (first | (apply Free.cw_pureW rfl rfl; (intro w'; go_simp <;> exact rfl); go_frame) | (apply Free.cw_steadyW rfl rfl rfl; (intro w' hS; have q0 := Free.sx_cell hS d5 (fun _ _ hT => hT); go_simp <;> exact rfl); go_frame) | (refine Free.cw_skip rfl ?_; go_frame)))
      refine Free.cw_nil ?_
      go_wp2
      go_ret
      rw [hr.out]
      exact ⟨_, _, rfl, hA2.out.keeps ((Keeps.refl _ _).drew), .nil hk02.out.drew⟩
    | false =>
      have hcon := fun (W : World) (hk : Keeps [] W2 W) => containsQ_c W _ t.op a.q (hA2.out.op.r.keeps hk)
      obtain ⟨ib, hib⟩ : ∃ ib, decide (a.q ∈ t.op) = ib := ⟨_, rfl⟩
      rw [hib] at hcon
      simp only [qV, Ans.q] at hcon
      have hof : isOpen a.q t.qs = ib := (hop2.out rfl).trans hib
      replace hib := Lib.hid hib
      replace hof := Lib.hid hof
      replace hcon := Lib.hid hcon
      go_wp2
      refine Free.wp_region_chain (fun i => i == 7) (fun i => true) (fun _ _ => False) (by kernel_rfl) (by kernel_rfl) (by kernel_rfl) ?_
      (repeat (first | (apply Free.cw_pureW rfl rfl; (intro w'; go_simp <;> exact rfl); go_frame) | (apply Free.cw_steadyW rfl rfl rfl; (intro w' hS; have q0 := Free.sx_cell hS d5 (fun _ _ hT => hT); have q1 := Free.sx_cell hS r0 (fun _ _ hT => hT); have q2 := Free.sx_cell hS r1 (fun _ _ hT => hT); have q3 := Free.sx_cell hS r2 (fun _ _ hT => hT); go_simp <;> exact rfl); go_frame) | (refine Free.cw_skip rfl ?_; go_frame)))
      refine Free.cw_loudW rfl rfl (fun K hK => ?_)
      go_wp2_with fail
      refine (hcon.out _ ((Keeps.refl [] _).drew)).mono ?_
      rintro e w3 ⟨rfl, hk3⟩
      refine hK _ _ rfl (Free.KeepsP.of hk3 (by simp)) ?_
      clear hK K
      (repeat (first | (apply Free.cw_pureW rfl rfl; (intro w'; go_simp <;> exact rfl); go_frame) | (apply Free.cw_steadyW rfl rfl rfl; (intro w' hS; have q0 := Free.sx_cell hS d5 (fun _ _ hT => hT); have q1 := Free.sx_cell hS r0 (fun _ _ hT => hT); have q2 := Free.sx_cell hS r1 (fun _ _ hT => hT); have q3 := Free.sx_cell hS r2 (fun _ _ hT => hT); go_simp <;> exact rfl); go_frame) | (refine Free.cw_skip rfl ?_; go_frame)))
      refine Free.cw_nil ?_
      have hk23 : Keeps [] W2 w3 := ((Keeps.refl [] W2).drew).trans hk3
      have hb03 := (hk23.block X0 ylt (by simp)).trans hb02.out
      have hbq3 := (hk23.block (X0 + 1) (by omega) (by simp)).trans hbq2.out
      have hA3 := hA2.out.keeps hk23
      have hIA3 := hIA2.out.keeps hk23
      have hR3 := hR2.out.keeps ktQ hk23
      have hRL3 := hRL2.out.ki hk23.ki0
      have hk03 := hk02.out.trans hk23
      have hz3 := hk23.size
      rw [hz2] at hz3
      obtain ⟨d0, d1, d2, d3, d4, d5, d6, d7, d8, d9, d10, d11⟩ := hA3.cells
      rw [hs.out] at d9
      obtain ⟨y0, y1, y2, y3, y4, y5, y6, y7, yf, ylt⟩ := cells8 hb03
      obtain ⟨r0, r1, r2⟩ := cells3t hbq3
      have hlt3 := hA3.lt
      have hfr := hA3.free
      replace hA3 := Lib.hid hA3
      replace hIA3 := Lib.hid hIA3
      replace hR3 := Lib.hid hR3
      replace hRL3 := Lib.hid hRL3
      replace hk03 := Lib.hid hk03
      replace hbq3 := Lib.hid hbq3
      replace hb03 := Lib.hid hb03
      clear hb02 hbq2 hA2 hIA2 hR2 hRL2 hk02 hk23 hk3 hlt2 hz2 hop1 hop2 hcon
      cases ib with
      | false =>
        have hr : t.answer a = (t, 6) := by unfold Tr.answer; rw [if_neg (by simp [hs.out]), if_pos hof.out]
        replace hr := Lib.hid hr
        go_wp2
        go_ret
        rw [hr.out]
        exact ⟨_, _, rfl, hA3.out, .nil hk03.out⟩
      | true =>
        have hvX : ∀ b, (Value.slice ah LH ch).ownBlock = some b → b < X0 ∧ b ≠ bt := fun b hb => ⟨hown0.out b (mem_ownT.2 (.inr (.inr (.inr (.inl hb))))), fun e => hA3.out.ne_bt.2.2.1 (e ▸ hb)⟩
        replace hvX := Lib.hid hvX
        have hcop := fun (W : World) (hk : Keeps [] w3 W) => copied_c W ⟨a.m, a.ow, a.n, a.ep, a.kn, a.rt, a.lu, x7, x8, x9⟩ a.ins (hIA3.out.keeps hk) (by have := ha.len; omega)
        simp only [aV, AnV.v] at hcop
        replace hcop := Lib.hid hcop
        go_wp2
        refine Free.wp_region_chain (fun i => i == 6 || i == 7 || i == 8 || i == 11) (fun i => true) (fun j b => (j = 8 ∧ (Value.slice ah LH ch).ownBlock = some b) ∨ (j = 11 ∧ b = bt)) (by kernel_rfl) (by kernel_rfl) (by kernel_rfl) ?_
        (repeat (first | (apply Free.cw_pure rfl rfl; (intro w'; go_simp <;> exact rfl); go_frame) | (apply Free.cw_steady rfl rfl rfl; (intro w' hS; have q0 := Free.sx_cell hS d8 (fun j hp hT => Or.elim hT (fun h => (hvX.out _ h.2).2 rfl) (fun h => by obtain ⟨rfl, _⟩ := h; exact absurd hp (by decide +kernel))); have q1 := Free.sx_cell hS y0 (fun j hp hT => Or.elim hT (fun h => by have := (hvX.out _ h.2).1; omega) (fun h => by have := h.2; omega)); have q2 := Free.sx_cell hS y1 (fun j hp hT => Or.elim hT (fun h => by have := (hvX.out _ h.2).1; omega) (fun h => by have := h.2; omega)); have q3 := Free.sx_cell hS y2 (fun j hp hT => Or.elim hT (fun h => by have := (hvX.out _ h.2).1; omega) (fun h => by have := h.2; omega)); have q4 := Free.sx_cell hS y3 (fun j hp hT => Or.elim hT (fun h => by have := (hvX.out _ h.2).1; omega) (fun h => by have := h.2; omega)); have q5 := Free.sx_cell hS y4 (fun j hp hT => Or.elim hT (fun h => by have := (hvX.out _ h.2).1; omega) (fun h => by have := h.2; omega)); have q6 := Free.sx_cell hS y5 (fun j hp hT => Or.elim hT (fun h => by have := (hvX.out _ h.2).1; omega) (fun h => by have := h.2; omega)); have q7 := Free.sx_cell hS y6 (fun j hp hT => Or.elim hT (fun h => by have := (hvX.out _ h.2).1; omega) (fun h => by have := h.2; omega)); have q8 := Free.sx_cell hS y7 (fun j hp hT => Or.elim hT (fun h => by have := (hvX.out _ h.2).1; omega) (fun h => by have := h.2; omega)); go_simp <;> exact rfl); go_frame) | (refine Free.cw_skip rfl ?_; go_frame)))
        refine Free.cw_loud rfl rfl (fun K hK => ?_)
        go_wp2_with fail
        refine (hcop.out _ ((Keeps.refl [] _).drew)).mono ?_
        rintro e w4 ⟨⟨z0, z1, z2, z3, z4, z5, z6, z7, z8, z9⟩, rfl, f0, f1, f2, f3, f4, f5, f6, hIO, hk4⟩
        simp only at f0 f1 f2 f3 f4 f5 f6
        subst f0 f1 f2 f3 f4 f5 f6
        refine hK _ _ rfl (Free.KeepsP.of hk4 (by simp)) ?_
        clear hK K
        simp only [AnV.v] at hIO
        have hk34 : Keeps [] w3 w4 := ((Keeps.refl [] w3).drew).trans hk4
        replace hIO := Lib.hid hIO
        clear hk4 hcop
        (repeat (apply Free.cw_pure rfl rfl; (intro w'; go_simp <;> exact rfl); go_frame))
        refine Free.cw_loud rfl rfl (fun K hK => ?_)
        go_wp2
        refine hK _ _ rfl (Free.KeepsP.alloc _ _ _) ?_
        clear hK K
        (repeat (apply Free.cw_pure rfl rfl; (intro w'; go_simp <;> exact rfl); go_frame))
        refine Free.cw_loud rfl rfl (fun K hK => ?_)
        obtain ⟨X, hX, hXL⟩ := hA3.out.hi
        have hX4 := hX.keeps (hk34.alloc (.cells #[.int .i64 a.m, .int .i64 a.ow, .int .u64 a.n, .int .i64 a.ep, .bool a.kn, .bool a.rt, .int .i64 a.lu, .slice z7 z8 z9] tA))
        have hA4 := hA3.out.keeps (hk34.alloc (.cells #[.int .i64 a.m, .int .i64 a.ow, .int .u64 a.n, .int .i64 a.ep, .bool a.kn, .bool a.rt, .int .i64 a.lu, .slice z7 z8 z9] tA))
        have hmade := Sh.O.one shA w4 (⟨a.m, a.ow, a.n, a.ep, a.kn, a.rt, a.lu, z7, z8, z9⟩ : AnV) #[.int .i64 a.m, .int .i64 a.ow, .int .u64 a.n, .int .i64 a.ep, .bool a.kn, .bool a.rt, .int .i64 a.lu, .slice z7 z8 z9] tA 0 rfl (by omega)
        have hlen := hLH.out
        have hXl := hXL.1
        have hlB := hA3.out.bB.1
        refine Sh.wp_app shA B infoA rfl Tryz.underlying67 (.slice ah LH ch) (.slice (some ⟨w4.heap.size, 0, none⟩) 1 1) X [(⟨a.m, a.ow, a.n, a.ep, a.kn, a.rt, a.lu, z7, z8, z9⟩ : AnV)] _ _ rfl rfl rfl hX4 hmade.r (by simp only [List.length_cons, List.length_nil]; omega) (by have := hk34.size; simp; omega) ?_
        intro v5 w5 hO5 hG5
        obtain ⟨a5, q5, rfl⟩ := hO5.form
        obtain ⟨N5, hN5⟩ : ∃ n, (X ++ [(⟨a.m, a.ow, a.n, a.ep, a.kn, a.rt, a.lu, z7, z8, z9⟩ : AnV)]).length = n := ⟨_, rfl⟩
        rw [hN5] at hO5 hG5 ⊢
        replace hN5 := Lib.hid hN5
        refine hK _ _ rfl (Free.KeepsP.of hG5.keepsO (fun b hb => .inl ⟨rfl, by simpa using hb⟩)) ?_
        clear hK K
        have hi45 := hA4.histKI hG5
        have hL5 := (hXL.ki ((hk34.alloc _).ki0.trans hi45)).snoc (x := ⟨a.m, a.ow, a.n, a.ep, a.kn, a.rt, a.lu, z7, z8, z9⟩) (y := a) ⟨rfl, rfl, rfl, rfl, rfl, rfl, rfl, (hIO.out.ki ((((Keeps.refl [] w4).alloc _).ki0).trans hi45))⟩
        obtain ⟨hT6, hk56, _, hi56⟩ := hA4.setHist hG5 hO5 hL5 ha
        have hmv := (Mv.nil (S := ownT bt bm (.slice ao LO co) (.slice ah LH ch) vg) (hk34.alloc (.cells #[.int .i64 a.m, .int .i64 a.ow, .int .u64 a.n, .int .i64 a.ep, .bool a.kn, .bool a.rt, .int .i64 a.lu, .slice z7 z8 z9] tA))).trans (hA4.mvHist hG5 hO5 hL5 ha)
        have hb5 := (hG5.keepsO.block bt hA4.lt.1 (by simpa using hA4.ne_bt.2.2.1)).trans hA4.blk
        have hlt5 := lt_of_blk hb5
        have c58 : ∃ u, w5.cell? ⟨bt, 8, none⟩ = some u := by rw [World.cell?, hb5]; exact ⟨_, rfl⟩
        have c5f : ∀ o, w5.frozen? ⟨bt, o, none⟩ = false := fun o => by simp [World.frozen?, hb5]
        obtain ⟨u8, c58⟩ := c58
        have hkx := hmv.k
        have hnX : ∀ k, X0 ≤ k → k ∉ ownT bt bm (.slice ao LO co) (.slice ah LH ch) vg := fun k hk hm => by have := hown0.out k hm; omega
        have hb06 := (hkx.block X0 ylt (hnX _ (Nat.le_refl _))).trans hb03.out
        have hbq6 := (hkx.block (X0 + 1) (lt_of_blk hbq3.out) (hnX _ (by omega))).trans hbq3.out
        have hIA6 := hIA3.out.keepE hkx (fun b hb => hsep.out b hb)
        have hz6 := hkx.size
        replace hT6 := Lib.hid hT6
        replace hk56 := Lib.hid hk56
        replace hmv := Lib.hid hmv
        replace hb06 := Lib.hid hb06
        replace hbq6 := Lib.hid hbq6
        replace hIA6 := Lib.hid hIA6
        replace hz6 := Lib.hid hz6
        clear hO5 hG5 hL5 hX hXL hX4 hmade hA4 hb5 hkx hi45 hi56
        (repeat (apply Free.cw_pure rfl rfl; (intro w'; go_simp <;> exact rfl); go_frame))
        refine Free.cw_loud rfl rfl (fun K hK => ?_)
        go_wp2
        refine hK _ _ rfl (Free.KeepsP.of hk56.out (fun b hb => .inr ⟨trivial, by simpa using hb⟩)) ?_
        clear hK K
        refine Free.cw_nil ?_
        generalize (w5.setCell ⟨bt, 8, none⟩ (.slice a5 N5 q5)) = W6 at *
        obtain ⟨d0, d1, d2, d3, d4, d5, d6, d7, d8, d9, d10, d11⟩ := hT6.out.cells
        obtain ⟨y0, y1, y2, y3, y4, y5, y6, y7, yf, ylt⟩ := cells8 hb06.out
        obtain ⟨r0, r1, r2⟩ := cells3t hbq6.out
        have hlt6 := hT6.out.lt
        have hfr6 := hT6.out.free
        simp only [Tr.take] at d9
        rw [hs.out] at d9
        clear hA3 hR3 hRL3 hlt3 hlt5 c58 c5f hk56 hIO hfr hk34 d0 d1 d2 d3 d4 d6 d10 d11 hlB
        obtain ⟨kn, hkn⟩ : ∃ k, a.kn = k := ⟨_, rfl⟩
        rw [hkn] at y4
        replace hkn := Lib.hid hkn
        cases kn with
        | false =>
          have hr : t.answer a = ({ t.take a with state := 4 }, 0) := by unfold Tr.answer; rw [if_neg (by simp [hs.out]), if_neg (by simp [hof.out]), if_pos hkn.out]
          replace hr := Lib.hid hr
          go_wp2
          go_ret
          rw [hr.out]
          exact ⟨_, _, rfl, hT6.out.setState 4, (Mv.nil hk03.out).trans (hmv.out.trans (hT6.out.mvSet 9 _))⟩
        | true =>
        obtain ⟨rt, hrt⟩ : ∃ k, a.rt = k := ⟨_, rfl⟩
        rw [hrt] at y5
        replace hrt := Lib.hid hrt
        cases rt with
        | true =>
          have hr : t.answer a = ({ t.take a with state := 3 }, 0) := by unfold Tr.answer; rw [if_neg (by simp [hs.out]), if_neg (by simp [hof.out]), if_neg (by simp [hkn.out]), if_pos hrt.out]
          replace hr := Lib.hid hr
          go_wp2
          go_ret
          rw [hr.out]
          exact ⟨_, _, rfl, hT6.out.setState 3, (Mv.nil hk03.out).trans (hmv.out.trans (hT6.out.mvSet 9 _))⟩
        | false =>
        obtain ⟨X6, hX6, hX6L⟩ := hT6.out.hi
        have hany := anyA_c W6 _ X6 X0 a.m a.ep hX6.r y0 y3
        obtain ⟨od, hod⟩ : ∃ d, X6.any (AnV.odd a.m a.ep) = d := ⟨_, rfl⟩
        rw [hod] at hany
        have hod2 : (t.hist ++ [a]).any (Ans.odd a.m a.ep) = od := by rw [← hod]; exact hX6L.any
        replace hany := Lib.hid hany
        replace hod2 := Lib.hid hod2
        clear hod hX6 hX6L
        go_wp2_with fail
        refine (hany.out).mono ?_
        rintro e w7 ⟨rfl, hk7⟩
        have hT7 := hT6.out.keeps hk7
        have hmv7 := hmv.out.trans (.nil hk7)
        have hz7 := hmv7.k.size
        have hb07 := (hmv7.k.block X0 (lt_of_blk hb03.out) (hnX _ (Nat.le_refl _))).trans hb03.out
        have hbq7 := (hmv7.k.block (X0 + 1) (lt_of_blk hbq3.out) (hnX _ (by omega))).trans hbq3.out
        have hIA7 := hIA3.out.keepE hmv7.k (fun b hb => hsep.out b hb)
        obtain ⟨d0, d1, d2, d3, d4, d5, d6, d7, d8, d9, d10, d11⟩ := hT7.cells
        obtain ⟨y0, y1, y2, y3, y4, y5, y6, y7, yf, ylt⟩ := cells8 hb07
        obtain ⟨r0, r1, r2⟩ := cells3t hbq7
        have hlt7 := hT7.lt
        have hfr7 := hT7.free
        have hne7 := hT7.ne_bt.1
        have hbmX : bm < X0 := hown0.out bm (mem_ownT.2 (.inr (.inl rfl)))
        replace hT7 := Lib.hid hT7
        replace hmv7 := Lib.hid hmv7
        replace hb07 := Lib.hid hb07
        replace hbq7 := Lib.hid hbq7
        replace hIA7 := Lib.hid hIA7
        clear hT6 hmv hb06 hbq6 hIA6 hlt6 hfr6 hz6 hany hk7 d0 d1 d2 d3 d4 d6 d8 d9 d10 d11
        cases od with
        | true =>
          have hr : t.answer a = ({ t.take a with state := 4 }, 0) := by unfold Tr.answer; rw [if_neg (by simp [hs.out]), if_neg (by simp [hof.out]), if_neg (by simp [hkn.out]), if_neg (by simp [hrt.out]), if_pos hod2.out]
          replace hr := Lib.hid hr
          have d9 := hT7.out.cells.2.2.2.2.2.2.2.2.2.1
          go_wp2
          go_ret
          rw [hr.out]
          exact ⟨_, _, rfl, hT7.out.setState 4, (Mv.nil hk03.out).trans (hmv7.out.trans (hT7.out.mvSet 9 _))⟩
        | false =>
        have hr : t.answer a = (((t.take a).put a).close, 0) := by unfold Tr.answer; rw [if_neg (by simp [hs.out]), if_neg (by simp [hof.out]), if_neg (by simp [hkn.out]), if_neg (by simp [hrt.out]), if_neg (by simp [hod2.out])]
        replace hr := Lib.hid hr
        have hcop := fun (W : World) (hk : Keeps [] w7 W) => copied_c W ⟨a.m, a.ow, a.n, a.ep, a.kn, a.rt, a.lu, x7, x8, x9⟩ a.ins (hIA7.out.keeps hk) (by have := ha.len; omega)
        simp only [aV, AnV.v] at hcop
        replace hcop := Lib.hid hcop
        go_wp2
        refine Free.wp_region_chain (fun i => i == 6 || i == 7) (fun i => true) (fun j b => j = 7 ∧ b = bm) (by kernel_rfl) (by kernel_rfl) (by kernel_rfl) ?_
        (repeat (first | (apply Free.cw_pure rfl rfl; (intro w'; go_simp <;> exact rfl); go_frame) | (apply Free.cw_steady rfl rfl rfl; (intro w' hS; have q0 := Free.sx_cell hS d7 (fun j hp hT => hne7 hT.2.symm); have q1 := Free.sx_cell hS r0 (fun j hp hT => by have := hT.2; omega); have q2 := Free.sx_cell hS r1 (fun j hp hT => by have := hT.2; omega); have q3 := Free.sx_cell hS r2 (fun j hp hT => by have := hT.2; omega); have q4 := Free.sx_cell hS y0 (fun j hp hT => by have := hT.2; omega); have q5 := Free.sx_cell hS y1 (fun j hp hT => by have := hT.2; omega); have q6 := Free.sx_cell hS y2 (fun j hp hT => by have := hT.2; omega); have q7 := Free.sx_cell hS y3 (fun j hp hT => by have := hT.2; omega); have q8 := Free.sx_cell hS y4 (fun j hp hT => by have := hT.2; omega); have q9 := Free.sx_cell hS y5 (fun j hp hT => by have := hT.2; omega); have q10 := Free.sx_cell hS y6 (fun j hp hT => by have := hT.2; omega); have q11 := Free.sx_cell hS y7 (fun j hp hT => by have := hT.2; omega); go_simp <;> exact rfl); go_frame) | (refine Free.cw_skip rfl ?_; go_frame)))
        refine Free.cw_loud rfl rfl (fun K hK => ?_)
        go_wp2_with fail
        refine (hcop.out _ ((Keeps.refl [] _).drew)).mono ?_
        rintro e w8 ⟨⟨z0, z1, z2, z3, z4, z5, z6, z7, z8, z9⟩, rfl, f0, f1, f2, f3, f4, f5, f6, hIO, hk8⟩
        simp only at f0 f1 f2 f3 f4 f5 f6
        subst f0 f1 f2 f3 f4 f5 f6
        refine hK _ _ rfl (Free.KeepsP.of hk8 (by simp)) ?_
        clear hK K
        simp only [AnV.v] at hIO
        have hk78 : Keeps [] w7 w8 := ((Keeps.refl [] w7).drew).trans hk8
        have hT8 := hT7.out.keeps hk78
        obtain ⟨R8, hR8, hRL8⟩ := hT8.mp
        have hget : MapS.get a.q R8 = none := by
          obtain ⟨ho1, _⟩ := hRL8.open (q := a.q) hT8.inv.nd
          cases hg : MapS.get a.q R8 with
          | none => rfl
          | some u => have := ho1 (by rw [hg]; rfl); rw [show (t.take a).qs = t.qs from rfl, hof.out] at this; cases this
        have hlen8 : R8.length < maxLen := by
          have h1 := hRL8.1
          have h2 := (rec_len t.qs).1
          have h3 : (t.take a).rec'.length = (recOf t.qs).length := rfl
          unfold maxLen; omega
        obtain ⟨w9, hrun, hM9, hk89⟩ := MapS.M.putNew ktQ Tryz.underlying115 hR8 ha.q hget hlen8 (⟨a.m, a.ow, a.n, a.ep, a.kn, a.rt, a.lu, z7, z8, z9⟩ : AnV)
        have hxA : InA w8 ⟨a.m, a.ow, a.n, a.ep, a.kn, a.rt, a.lu, z7, z8, z9⟩ a := ⟨rfl, rfl, rfl, rfl, rfl, rfl, rfl, hIO⟩
        obtain ⟨hT9, _⟩ := hT8.setRec hR8 hRL8 hof.out hk89 hM9 hxA ha hkn.out
        have hmv9 := (hmv7.out.trans (.nil hk78)).trans (hT8.mvRec hR8 hRL8 hof.out hk89 hM9 hxA ha hkn.out)
        simp only [ktQ, qV, Ans.q, aV, AnV.v] at hrun
        replace hT9 := Lib.hid hT9
        replace hmv9 := Lib.hid hmv9
        replace hk89 := Lib.hid hk89
        clear hk8 hIO hxA hM9 hRL8 hget hlen8 hT8 hcop
        (repeat (apply Free.cw_pure rfl rfl; (intro w'; go_simp <;> exact rfl); go_frame))
        refine Free.cw_loud rfl rfl (fun K hK => ?_)
        go_wp2
        refine hK _ _ rfl (Free.KeepsP.of hk89.out (fun b hb => ⟨trivial, by simpa using hb⟩)) ?_
        clear hK K
        refine Free.cw_nil ?_
        have hx8 : x8 = a.ins.length := by obtain ⟨_, _, e, _⟩ := hIA7.out.form; cases e; rfl
        have hT9' : TrM w9 B bt bm (.slice ao LO co) (.slice a5 N5 q5) vg (t.mid a 0) := hT9.out
        have hz9 := hmv9.out.k.size
        have hb09 := (hmv9.out.k.block X0 (lt_of_blk hb03.out) (hnX _ (Nat.le_refl _))).trans hb03.out
        obtain ⟨y0, y1, y2, y3, y4, y5, y6, y7, yf, ylt⟩ := cells8 hb09
        clear hz9 hb09 hrun hk89 hT9 hR8 hk78 hT7 hmv7 hb07 hbq7 hIA7 hlt7 hfr7 hne7
        have h88 : x8 ≤ 1000 := by omega
        replace hx8 := Lib.hid hx8
        replace hT9' := Lib.hid hT9'
        go_wp2
        go_loopw [88] (fun i wr => ∃ k : Nat, i = .int .i64 k ∧ k ≤ x8 ∧ ∃ vk, Hid (TrM wr B bt bm vk (.slice a5 N5 q5) vg (t.mid a k)) ∧ Hid (Mv (ownT bt bm (.slice ao LO co) (.slice ah LH ch) vg) (ownT bt bm vk (.slice a5 N5 q5) vg) w3 wr)) (fun i _ => x8 - (intOf i).toNat)
        case atStart => exact ⟨0, rfl, by omega, _, hT9', hmv9⟩
        case round =>
          obtain ⟨k, rfl, hk, vk, hTr, hmvr⟩ := hrel
          obtain ⟨ak, ck, rfl⟩ := hTr.out.op.form
          obtain ⟨LK, hLK⟩ : ∃ n, (t.mid a k).op.length = n := ⟨_, rfl⟩
          have hLK2 := Tr.mid_op t a k hl2
          rw [hLK] at hTr hmvr hLK2
          by_cases hlt : k < x8
          · have hki : k < a.ins.length := by rw [← hx8.out]; exact hlt
            obtain ⟨g, o, c', hv, he⟩ := (hIA3.out.keepE hmvr.out.k (fun b hb => hsep.out b hb)).elem hki
            cases hv
            obtain ⟨xx, hxx⟩ : ∃ xx, a.ins[k] = xx := ⟨_, rfl⟩
            have hxok := ha.ins a.ins[k] (List.getElem_mem hki)
            rw [hxx] at he hxok
            obtain ⟨e0, e1, e2⟩ := xx
            have f0 := he 0 _ rfl
            have f1 := he 1 _ rfl
            have f2 := he 2 _ rfl
            simp only [shT, Nat.add_zero] at f0 f1 f2
            have hbr := (hmvr.out.k.block X0 (lt_of_blk hb03.out) (hnX _ (Nat.le_refl _))).trans hb03.out
            obtain ⟨y0, y1, y2, y3, y4, y5, y6, y7, yf, ylt⟩ := cells8 hbr
            replace hxx := Lib.hid hxx
            replace hki := Lib.hid hki
            replace hxok := Lib.hid hxok
            clear he hbr
            go_wp2
            have hkA : Keeps [] wr ((wr.alloc (.cells #[.int .i64 e0, .int .u64 e1, .int .i64 e2] tI)).alloc (.cells #[.int .i64 e0, .int .i64 a.m, .int .u64 e1] tQ)) := ((Keeps.refl _ _).alloc _).alloc _
            have hbA := heap_alloc_new (wr.alloc (.cells #[.int .i64 e0, .int .u64 e1, .int .i64 e2] tI)) (.cells #[.int .i64 e0, .int .i64 a.m, .int .u64 e1] tQ)
            have hzA : (wr.alloc (.cells #[.int .i64 e0, .int .u64 e1, .int .i64 e2] tI)).heap.size = wr.heap.size + 1 := by simp
            rw [hzA] at hbA
            generalize hWA : ((wr.alloc (.cells #[.int .i64 e0, .int .u64 e1, .int .i64 e2] tI)).alloc (.cells #[.int .i64 e0, .int .i64 a.m, .int .u64 e1] tQ)) = WA at *
            clear hWA hzA
            have hTA := hTr.out.keeps hkA
            have hmvA := hmvr.out.trans (.nil hkA)
            obtain ⟨r0, r1, r2⟩ := cells3t hbA
            have d5 := hTA.cells.2.2.2.2.2.1
            have hltA := hTA.lt
            have hcon := fun (W : World) (hk : Keeps [] WA W) => containsQ_c W _ _ (e0, a.m, e1) (hTA.op.r.keeps hk)
            obtain ⟨ib, hib⟩ : ∃ ib, decide ((e0, a.m, e1) ∈ (t.mid a k).op) = ib := ⟨_, rfl⟩
            rw [hib] at hcon
            simp only [qV] at hcon
            replace hib := Lib.hid hib
            replace hcon := Lib.hid hcon
            replace hTA := Lib.hid hTA
            replace hmvA := Lib.hid hmvA
            replace hbA := Lib.hid hbA
            replace hkA := Lib.hid hkA
            have hownr : ∀ b ∈ ownT bt bm (.slice ak LK ck) (.slice a5 N5 q5) vg, b < wr.heap.size := fun b hb => (hTr.out.own_tag hb).2.1
            clear hTr hmvr
            refine Free.wp_region_chain (fun i => i == 5) (fun i => true) (fun _ _ => False) (by kernel_rfl) (by kernel_rfl) (by kernel_rfl) ?_
            (repeat (first | (apply Free.cw_pure rfl rfl; (intro w'; go_simp <;> exact rfl); go_frame) | (apply Free.cw_steady rfl rfl rfl; (intro w' hS; have q0 := Free.sx_cell hS d5 (fun _ _ hT => hT); have q1 := Free.sx_cell hS r0 (fun _ _ hT => hT); have q2 := Free.sx_cell hS r1 (fun _ _ hT => hT); have q3 := Free.sx_cell hS r2 (fun _ _ hT => hT); go_simp <;> exact rfl); go_frame) | (refine Free.cw_skip rfl ?_; go_frame)))
            refine Free.cw_loud rfl rfl (fun K hK => ?_)
            go_wp2_with fail
            refine (hcon.out _ ((Keeps.refl [] _).drew)).mono ?_
            rintro e wB ⟨rfl, hkB⟩
            refine hK _ _ rfl (Free.KeepsP.of hkB (by simp)) ?_
            clear hK K hcon
            refine Free.cw_nil ?_
            have hkAB : Keeps [] WA wB := ((Keeps.refl [] WA).drew).trans hkB
            have hTB := hTA.out.keeps hkAB
            have hmvB := hmvA.out.trans (.nil hkAB)
            have hbB := (hkAB.block _ (lt_of_blk hbA.out) (by simp)).trans hbA.out
            obtain ⟨r0, r1, r2⟩ := cells3t hbB
            have d5 := hTB.cells.2.2.2.2.2.1
            have hltB := hTB.lt
            have hsB := hTB.op.lt
            have hwrB : wr.heap.size + 1 < wB.heap.size := lt_of_blk hbB
            have hownB : ∀ b ∈ ownT bt bm (.slice ak LK ck) (.slice a5 N5 q5) vg, b < wB.heap.size := fun b hb => (hTB.own_tag hb).2.1
            replace hTB := Lib.hid hTB
            replace hmvB := Lib.hid hmvB
            clear hTA hmvA hbA hkA hkB hkAB hbB hltA
            cases ib with
            | true =>
              go_wp2
              go_roundw
              case rel => exact ⟨k + 1, rfl, by omega, _, by rw [Tr.mid_old t a k hki.out (by rw [hxx.out]; simpa using hib.out)]; exact hTB, hmvB⟩
              case measure => simp [intOf]; omega
            | false =>
              have hne : ((LK : Int) == 1024) = false := by simp; omega
              have hbv : ∀ b, (Value.slice ak LK ck).ownBlock = some b → b < wr.heap.size ∧ b ≠ bt := fun b hb => ⟨hownr b (mem_ownT.2 (.inr (.inr (.inl hb)))), fun e => hTB.out.ne_bt.2.1 (e ▸ hb)⟩
              have hbtr := hownr bt (mem_ownT.2 (.inl rfl))
              replace hbv := Lib.hid hbv
              clear hownr hownB
              go_wp2
              refine Free.wp_region_chain (fun i => i == 6 || i == 7 || i == 10) (fun i => true) (fun j b => (j = 7 ∧ (Value.slice ak LK ck).ownBlock = some b) ∨ (j = 10 ∧ b = bt)) (by kernel_rfl) (by kernel_rfl) (by kernel_rfl) ?_
              (repeat (first | (apply Free.cw_pure rfl rfl; (intro w'; go_simp <;> exact rfl); go_frame) | (apply Free.cw_steady rfl rfl rfl; (intro w' hS; have q0 := Free.sx_cell hS d5 (fun j hp hT => Or.elim hT (fun h => (hbv.out _ h.2).2 rfl) (fun h => by obtain ⟨rfl, _⟩ := h; exact absurd hp (by decide +kernel))); have q1 := Free.sx_cell hS r0 (fun j hp hT => Or.elim hT (fun h => by have := (hbv.out _ h.2).1; omega) (fun h => by have := h.2; omega)); have q2 := Free.sx_cell hS r1 (fun j hp hT => Or.elim hT (fun h => by have := (hbv.out _ h.2).1; omega) (fun h => by have := h.2; omega)); have q3 := Free.sx_cell hS r2 (fun j hp hT => Or.elim hT (fun h => by have := (hbv.out _ h.2).1; omega) (fun h => by have := h.2; omega)); go_simp <;> exact rfl); go_frame) | (refine Free.cw_skip rfl ?_; go_frame)))
              refine Free.cw_loud rfl rfl (fun K hK => ?_)
              go_wp2
              refine hK _ _ rfl (Free.KeepsP.alloc _ _ _) ?_
              clear hK K
              (repeat (apply Free.cw_pure rfl rfl; (intro w'; go_simp <;> exact rfl); go_frame))
              refine Free.cw_loud rfl rfl (fun K hK => ?_)
              have hmade := (Sh.O.one shQ wB (e0, a.m, e1) #[.int .i64 e0, .int .i64 a.m, .int .u64 e1] tQ 0 rfl (by omega)).keeps ((Keeps.refl [] _).drew)
              have hkC : Keeps [] wB ((wB.alloc (.cells #[.int .i64 e0, .int .i64 a.m, .int .u64 e1] tQ)).drew) := ((Keeps.refl _ _).alloc _).drew
              have hTC := hTB.out.keeps hkC
              have hmvC := hmvB.out.trans (.nil hkC)
              have hBB := hTB.out.bB.1
              refine Sh.wp_app shQ B infoQ rfl Tryz.underlying114 (.slice ak LK ck) (.slice (some ⟨wB.heap.size, 0, none⟩) 1 1) (t.mid a k).op [(e0, a.m, e1)] _ _ rfl rfl rfl hTC.op hmade.r (by rw [hLK]; simp only [List.length_cons, List.length_nil]; omega) (by simp; omega) ?_
              intro v5 w5 hO5 hG5
              obtain ⟨a5', c5', rfl⟩ := hO5.form
              obtain ⟨N5', hN5'⟩ : ∃ n, ((t.mid a k).op ++ [(e0, a.m, e1)]).length = n := ⟨_, rfl⟩
              rw [hN5'] at hO5 hG5 ⊢
              replace hN5' := Lib.hid hN5'
              refine hK _ _ rfl (Free.KeepsP.of hG5.keepsO (fun b hb => .inl ⟨rfl, by simpa using hb⟩)) ?_
              clear hK K
              have hqok : qOk (e0, a.m, e1) := ⟨hxok.out.1, ha.q.1, hxok.out.2.1⟩
              have hnm : (e0, a.m, e1) ∉ (t.mid a k).op := by simpa using hib.out
              obtain ⟨hTD, hkD, _, _⟩ := hTC.setOpen hG5 hO5 hqok hnm
              have hmvD := hmvC.trans (hTC.mvOpen hG5 hO5 hqok hnm)
              have hTD' : TrM (w5.setCell ⟨bt, 5, none⟩ (.slice a5' N5' c5')) B bt bm (.slice a5' N5' c5') (.slice a5 N5 q5) vg (t.mid a (k + 1)) := by
                rw [Tr.mid_new t a k hki.out (by rw [hxx.out]; exact hnm)]
                simp only [hxx.out]
                exact hTD
              have hb5 := (hG5.keepsO.block bt hTC.lt.1 (by simpa using hTC.ne_bt.2.1)).trans hTC.blk
              have hlt5 := lt_of_blk hb5
              have c55 : ∃ u, w5.cell? ⟨bt, 5, none⟩ = some u := by rw [World.cell?, hb5]; exact ⟨_, rfl⟩
              have c5f : ∀ o, w5.frozen? ⟨bt, o, none⟩ = false := fun o => by simp [World.frozen?, hb5]
              obtain ⟨u55, c55⟩ := c55
              replace hTD' := Lib.hid hTD'
              replace hkD := Lib.hid hkD
              replace hmvD := Lib.hid hmvD
              clear hO5 hG5 hmade hTC hmvC hTD hb5 hkC hnm hqok hTB hmvB
              (repeat (apply Free.cw_pure rfl rfl; (intro w'; go_simp <;> exact rfl); go_frame))
              refine Free.cw_loud rfl rfl (fun K hK => ?_)
              go_wp2
              refine hK _ _ rfl (Free.KeepsP.of hkD.out (fun b hb => .inr ⟨trivial, by simpa using hb⟩)) ?_
              clear hK K
              refine Free.cw_nil ?_
              go_wp2
              go_roundw
              case rel => exact ⟨k + 1, rfl, by omega, _, hTD', hmvD⟩
              case measure => simp [intOf]; omega
          · have hkx : k = x8 := by omega
            subst hkx
            obtain ⟨Rr, hRr, hRLr⟩ := hTr.out.mp
            have hlenm := fun (w' : World) (hb : w'.heap[bm]? = wr.heap[bm]?) => MapS.M.len ktQ Tryz.underlying115 (hRr.at' hb) 3
            obtain ⟨NR, hNR⟩ : ∃ n, Rr.length = n := ⟨_, rfl⟩
            rw [hNR] at hlenm
            have hdec : NR = LK ↔ allQ (t.mid a k).qs = true := by
              rw [← hNR, hRLr.1, ← (rec_len (t.mid a k).qs).2, ← hLK]
              simp [Tr.op, Tr.rec']
            have hmid : t.mid a k = (t.take a).put a := by rw [hx8.out]; exact Tr.mid_all t a
            replace hlenm := Lib.hid hlenm
            replace hdec := Lib.hid hdec
            replace hmid := Lib.hid hmid
            have d5 := hTr.out.cells.2.2.2.2.2.1
            have d7 := hTr.out.cells.2.2.2.2.2.2.2.1
            have d9 := hTr.out.cells.2.2.2.2.2.2.2.2.2.1
            have hltr := hTr.out.lt
            have hfrr := hTr.out.free
            clear hRr hRLr
            go_wp2
            refine Free.wp_region_chain (fun i => false) (fun i => true) (fun _ _ => False) (by kernel_rfl) (by kernel_rfl) (by kernel_rfl) ?_
            (repeat (first | (apply Free.cw_pure rfl rfl; (intro w'; go_simp <;> exact rfl); go_frame) | (apply Free.cw_steady rfl rfl rfl; (intro w' hS; have q0 := Free.sx_cell hS d5 (fun _ _ hT => hT); have q1 := Free.sx_cell hS d7 (fun _ _ hT => hT); have q2 := hlenm.out w' (hS.block bm hltr.2 (fun ⟨_, _, _, hT⟩ => hT)); go_simp <;> exact rfl); go_frame)))
            refine Free.cw_nil ?_
            obtain ⟨al, hal⟩ : ∃ b, allQ (t.mid a k).qs = b := ⟨_, rfl⟩
            have hbe : ((NR : Int) == (LK : Int)) = al := by
              rw [← hal]
              have h1 := hdec.out
              cases hq : allQ (t.mid a k).qs with
              | true => have := h1.2 hq; simp [this]
              | false => 
                have h2 : ¬ NR = LK := fun e => by rw [h1.1 e] at hq; cases hq
                simp; omega
            have hTd := hTr.out.keeps ((Keeps.refl [] wr).drew)
            have hmvd := (Mv.nil hk03.out).trans (hmvr.out.trans (.nil ((Keeps.refl [] wr).drew)))
            replace hTd := Lib.hid hTd
            replace hmvd := Lib.hid hmvd
            cases al with
            | true =>
              go_wp2
              go_ret
              rw [hr.out, ← hmid.out, show (t.mid a k).close = { t.mid a k with state := 1 } from if_pos hal]
              exact ⟨_, _, rfl, hTd.out.setState 1, hmvd.out.trans (hTd.out.mvSet 9 _)⟩
            | false =>
              go_wp2
              go_ret
              rw [hr.out, ← hmid.out, show (t.mid a k).close = t.mid a k from if_neg (by rw [hal]; decide)]
              exact ⟨_, _, rfl, hTd.out, hmvd.out⟩
end Go.Proofs.YtpobepninifenaaGreat

namespace Go.Proofs.YtpobepninifenaaGreat
open Go.ChangeShapes Go.WideShapes Go.ChangeAt Go.RowKit

/-- Numbers that fit. -/
structure Ans.Fit (a : Ans) : Prop where
  q : qOk a.q
  ep : W64 a.ep
  lu : W64 a.lu
  ins : ∀ x ∈ a.ins, W64 x.1 ∧ x.2.1 < 18446744073709551616 ∧ W64 x.2.2
theorem Ans.Fit.ok {a : Ans} (h : a.Fit) (hl : a.ins.length ≤ 100000) : a.Ok := ⟨h.q, h.ep, h.lu, h.ins, hl⟩
/-- The cells of an answer. -/
def AnC (w : World) (cs : List Value) (y : Ans) : Prop := ∃ x : AnV, cs = x.cs ∧ InR w x y ∧ y.Fit
theorem u64_wf {z : Int} (h : (Lit.int .u64 z).wf = true) : ∃ n : Nat, z = n ∧ n < 18446744073709551616 := by
  have hb : 0 ≤ z ∧ z ≤ 18446744073709551615 := by simpa [Lit.wf, IntKind.min, IntKind.max, IntKind.signed, IntKind.bits] using h
  exact ⟨z.toNat, by omega, by omega⟩
theorem w64_wf {x : Int} (h : (Lit.int .i64 x).wf = true) : W64 x := by simpa [W64, Lit.wf, IntKind.min, IntKind.max, IntKind.signed, IntKind.bits] using h
set_option maxRecDepth 100000 in
set_option maxHeartbeats 1000000 in
theorem cs_tid {w : World} {cs : List Value} (h : Gen.Cs Tryz.prog w 39 cs) : ∃ a s, cs = [.int .i64 a, .int .i64 s] ∧ W64 a ∧ W64 s := by
  obtain ⟨hl, hall⟩ := Gen.Cs.struct Tryz.underlying39 h
  rw [show Tryz.prog.cellsOf 39 = 2 by kernel_rfl] at hl
  obtain ⟨a, b, rfl⟩ : ∃ a b, cs = [a, b] := by
    match cs, hl with
    | [a, b], _ => exact ⟨a, b, rfl⟩
  have h0 := hall 0 _ rfl
  have h1 := hall 1 _ rfl
  replace h0 : Gen.Cs Tryz.prog w 3 (([a, b].drop 0).take (Tryz.prog.cellsOf 3)) := h0
  replace h1 : Gen.Cs Tryz.prog w 3 (([a, b].drop 1).take (Tryz.prog.cellsOf 3)) := h1
  rw [show Tryz.prog.cellsOf 3 = 1 by kernel_rfl] at h0 h1
  obtain ⟨k, hk, wk⟩ := Gen.Cs.int Tryz.underlying3 h0
  obtain ⟨n, hn, wn⟩ := Gen.Cs.int Tryz.underlying3 h1
  simp at hk hn
  subst hk hn
  exact ⟨k, n, rfl, w64_wf wk, w64_wf wn⟩
set_option maxRecDepth 100000 in
set_option maxHeartbeats 1000000 in
theorem cs_t3 {w : World} {t : TypeId} {fs : Array Field} (ht : Tryz.prog.underlying t = some (.struct fs)) (hc : Tryz.prog.cellsOf t = 3) (hf : fs.toList.map (fun f => (f.type, f.offset)) = [(3, 0), (34, 1), (3, 2)]) {cs : List Value} (h : Gen.Cs Tryz.prog w t cs) :
    ∃ (x : T3), cs = shT.cf x ∧ W64 x.1 ∧ x.2.1 < 18446744073709551616 ∧ W64 x.2.2 := by
  obtain ⟨hl, hall⟩ := Gen.Cs.struct ht h
  rw [hc] at hl
  obtain ⟨f0, f1, f2, hfs⟩ : ∃ f0 f1 f2, fs = #[f0, f1, f2] := by
    obtain ⟨l⟩ := fs
    have hl := congrArg List.length hf
    simp only [List.length_map, List.length_cons, List.length_nil] at hl
    match l, hl with
    | [f0, f1, f2], _ => exact ⟨f0, f1, f2, rfl⟩
  subst hfs
  simp only [List.map_cons, List.map_nil, List.cons.injEq, Prod.mk.injEq, and_true] at hf
  obtain ⟨⟨t0, o0⟩, ⟨t1, o1⟩, t2, o2⟩ := hf
  obtain ⟨a, b, c, rfl⟩ : ∃ a b c, cs = [a, b, c] := by
    match cs, hl with
    | [a, b, c], _ => exact ⟨a, b, c, rfl⟩
  have h0 := hall 0 f0 rfl
  have h1 := hall 1 f1 rfl
  have h2 := hall 2 f2 rfl
  rw [t0, o0, show Tryz.prog.cellsOf 3 = 1 by kernel_rfl] at h0
  rw [t1, o1, show Tryz.prog.cellsOf 34 = 1 by kernel_rfl] at h1
  rw [t2, o2, show Tryz.prog.cellsOf 3 = 1 by kernel_rfl] at h2
  obtain ⟨k, hk, wk⟩ := Gen.Cs.int Tryz.underlying3 h0
  obtain ⟨n, hn, wn⟩ := Gen.Cs.int Tryz.underlying34 h1
  obtain ⟨m, hm, wm⟩ := Gen.Cs.int Tryz.underlying3 h2
  obtain ⟨n2, en, wn2⟩ := u64_wf wn
  rw [en] at hn
  simp at hk hn hm
  subst hk hn hm
  exact ⟨(k, n2, m), rfl, w64_wf wk, wn2, w64_wf wm⟩
set_option maxRecDepth 100000 in
set_option maxHeartbeats 1000000 in
theorem cs_ins {w : World} {cs : List Value} (h : Gen.Cs Tryz.prog w tI cs) : ∃ (x : T3), cs = shT.cf x ∧ W64 x.1 ∧ x.2.1 < 18446744073709551616 ∧ W64 x.2.2 := cs_t3 Tryz.underlying154 (by kernel_rfl) rfl h
set_option maxRecDepth 100000 in
set_option maxHeartbeats 1000000 in
theorem cs_inset {w : World} {v : Value} (h : Gen.Cs Tryz.prog w 35 [v]) : ∃ L : List T3, shT.R w v L ∧ ∀ x ∈ L, W64 x.1 ∧ x.2.1 < 18446744073709551616 ∧ W64 x.2.2 := by
  obtain ⟨L, hL, _⟩ := Gen.SlR.open (R := fun _ cs (x : T3) => cs = shT.cf x ∧ W64 x.1 ∧ x.2.1 < 18446744073709551616 ∧ W64 x.2.2) Tryz.underlying35 (show Tryz.prog.cellsOf tI = 3 by kernel_rfl) (by decide) (fun cs hcs => cs_ins hcs) h
  refine ⟨L, Sh.R.of_slR (s := shT) (fun cs x h => h.1) hL, fun x hx => ?_⟩
  obtain ⟨k, hk, rfl⟩ := List.mem_iff_getElem.1 hx
  obtain ⟨cs, _, h2⟩ := hL
  exact (h2 k hk).2
set_option maxRecDepth 100000 in
set_option maxHeartbeats 1000000 in
theorem cs_ans {w : World} {cs : List Value} (h : Gen.Cs Tryz.prog w tA cs) : ∃ y, AnC w cs y := by
  obtain ⟨hl, hall⟩ := Gen.Cs.struct Tryz.underlying37 h
  rw [show Tryz.prog.cellsOf tA = 8 by kernel_rfl] at hl
  obtain ⟨a, b, c, d, e, f, g, i, rfl⟩ : ∃ a b c d e f g i, cs = [a, b, c, d, e, f, g, i] := by
    match cs, hl with
    | [a, b, c, d, e, f, g, i], _ => exact ⟨a, b, c, d, e, f, g, i, rfl⟩
  have h0 := hall 0 _ rfl
  have h1 := hall 1 _ rfl
  have h2 := hall 2 _ rfl
  have h3 := hall 3 _ rfl
  have h4 := hall 4 _ rfl
  have h5 := hall 5 _ rfl
  have h6 := hall 6 _ rfl
  have h7 := hall 7 _ rfl
  replace h0 : Gen.Cs Tryz.prog w 3 (([a, b, c, d, e, f, g, i].drop 0).take (Tryz.prog.cellsOf 3)) := h0
  replace h1 : Gen.Cs Tryz.prog w 3 (([a, b, c, d, e, f, g, i].drop 1).take (Tryz.prog.cellsOf 3)) := h1
  replace h2 : Gen.Cs Tryz.prog w 34 (([a, b, c, d, e, f, g, i].drop 2).take (Tryz.prog.cellsOf 34)) := h2
  replace h3 : Gen.Cs Tryz.prog w 3 (([a, b, c, d, e, f, g, i].drop 3).take (Tryz.prog.cellsOf 3)) := h3
  replace h4 : Gen.Cs Tryz.prog w 4 (([a, b, c, d, e, f, g, i].drop 4).take (Tryz.prog.cellsOf 4)) := h4
  replace h5 : Gen.Cs Tryz.prog w 4 (([a, b, c, d, e, f, g, i].drop 5).take (Tryz.prog.cellsOf 4)) := h5
  replace h6 : Gen.Cs Tryz.prog w 3 (([a, b, c, d, e, f, g, i].drop 6).take (Tryz.prog.cellsOf 3)) := h6
  replace h7 : Gen.Cs Tryz.prog w 35 (([a, b, c, d, e, f, g, i].drop 7).take (Tryz.prog.cellsOf 35)) := h7
  rw [show Tryz.prog.cellsOf 3 = 1 by kernel_rfl] at h0 h1 h3 h6
  rw [show Tryz.prog.cellsOf 34 = 1 by kernel_rfl] at h2
  rw [show Tryz.prog.cellsOf 4 = 1 by kernel_rfl] at h4 h5
  rw [show Tryz.prog.cellsOf 35 = 1 by kernel_rfl] at h7
  obtain ⟨z0, e0, w0⟩ := Gen.Cs.int Tryz.underlying3 h0
  obtain ⟨z1, e1, w1⟩ := Gen.Cs.int Tryz.underlying3 h1
  obtain ⟨z2, e2, w2⟩ := Gen.Cs.int Tryz.underlying34 h2
  obtain ⟨z3, e3, w3⟩ := Gen.Cs.int Tryz.underlying3 h3
  obtain ⟨z4, e4⟩ := Gen.Cs.bool Tryz.underlying4 h4
  obtain ⟨z5, e5⟩ := Gen.Cs.bool Tryz.underlying4 h5
  obtain ⟨z6, e6, w6⟩ := Gen.Cs.int Tryz.underlying3 h6
  obtain ⟨y2, ey2, wy2⟩ := u64_wf w2
  rw [ey2] at e2
  simp at e0 e1 e2 e3 e4 e5 e6 h7
  subst e0 e1 e2 e3 e4 e5 e6
  obtain ⟨L, hL, hLf⟩ := cs_inset h7
  obtain ⟨x, k, rfl, _⟩ := hL.form
  exact ⟨⟨z0, z1, y2, z3, z4, z5, z6, L⟩, ⟨z0, z1, y2, z3, z4, z5, z6, x, L.length, k⟩, rfl, ⟨rfl, rfl, rfl, rfl, rfl, rfl, rfl, hL⟩, ⟨⟨w64_wf w0, w64_wf w1, wy2⟩, w64_wf w3, w64_wf w6, hLf⟩⟩
end Go.Proofs.YtpobepninifenaaGreat

namespace Go.Proofs.YtpobepninifenaaGreat
open Go.RowKit

/-- What a question asks. -/
def askOf (p : Qn × Option Ans) : Option T3 := if p.2.isSome then none else some (p.1.1, p.1.2.2, p.1.2.1)
def Tr.queries (t : Tr) : Tr × List T3 := if t.state ≠ 0 then (t, []) else ({ t with told := t.qs.length }, (t.qs.drop t.told.toNat).filterMap askOf)
def QsPost (w : World) (B bt bm : Nat) (vo vh vg : Value) (r : Tr × List T3) (e : Ending) (w' : World) : Prop :=
  ∃ v, e = .returned v ∧ shT.O w' w.heap.size tN v r.2 ∧ TrM w' B bt bm vo vh vg r.1 ∧ Mv (ownT bt bm vo vh vg) (ownT bt bm vo vh vg) w w'
theorem ask_step (l : List (Qn × Option Ans)) (k : Nat) (hk : k < l.length) : (l.take (k + 1)).filterMap askOf = (l.take k).filterMap askOf ++ (askOf l[k]).toList := by
  rw [List.take_succ_eq_append_getElem hk, List.filterMap_append]
  cases h : askOf l[k] <;> simp [h]
theorem LR.some {w : World} {R : List (Qn × AnV)} {t : Tr} {q : Qn} {u : Option Ans} (h : LR w R t.rec') (hnd : t.op.Nodup) (hm : (q, u) ∈ t.qs) : (MapS.get q R).isSome = u.isSome := by
  rcases h.2 q with ⟨h1, h2⟩ | ⟨x, y, h1, h2, _⟩
  · rw [h1]
    cases u with
    | none => rfl
    | some b => rw [show MapS.get q t.rec' = _ from (get_rec hnd q b).2 hm] at h2; cases h2
  · rw [h1]
    have := nd_val hnd ((get_rec hnd q y).1 h2) hm
    rw [← this]; rfl
set_option maxRecDepth 100000 in
set_option maxHeartbeats 10000000 in
theorem queries_c (w : World) (B bt bm : Nat) (vo vh vg : Value) (t : Tr) (tn : Nat) (h : TrM w B bt bm vo vh vg t) (ht : t.told = tn) (htn : tn ≤ t.qs.length) (hl : t.qs.length ≤ 100000) :
    Calls Tryz.prog 37 #[.pointer (some ⟨bt, 0, none⟩)] w (QsPost w B bt bm vo vh vg t.queries) := by
  obtain ⟨ao, co, rfl⟩ := h.op.form
  obtain ⟨LO, hLO⟩ : ∃ n, t.op.length = n := ⟨_, rfl⟩
  have hLO2 : t.qs.length = LO := by rw [← hLO]; simp [Tr.op]
  rw [hLO] at h ⊢
  rw [hLO2] at htn hl
  replace hLO := Lib.hid hLO
  replace hLO2 := Lib.hid hLO2
  obtain ⟨c0, c1, c2, c3, c4, c5, c6, c7, c8, c9, c10, c11⟩ := h.cells
  have hlt := h.lt
  by_cases hs : t.state = 0
  case neg =>
    have hs1 : (t.state != 0) = true := by simpa using hs
    have hr : t.queries = (t, []) := by unfold Tr.queries; rw [if_pos hs]
    rw [hr]
    replace hs := Lib.hid hs
    replace hr := Lib.hid hr
    replace h := Lib.hid h
    clear c0 c1 c2 c3 c4 c5 c6 c7 c8 c10 c11
    go_enter Tryz.func37, Tryz.ntmps37
    go_wp2
    go_ret
    exact ⟨_, rfl, Sh.O.nil _ _ _ _, h.out, .nil (Keeps.refl _ _)⟩
  case pos =>
    have hr : t.queries = ({ t with told := LO }, (t.qs.drop tn).filterMap askOf) := by unfold Tr.queries; rw [if_neg (by simp [hs]), hLO2.out, ht]; rfl
    rw [hr]
    rw [hs] at c9
    rw [ht] at c6
    have hT := h.op.r.tail' tn (by rw [hLO.out]; exact htn)
    have hfr := h.free
    replace hr := Lib.hid hr
    replace h := Lib.hid h
    replace hs := Lib.hid hs
    replace ht := Lib.hid ht
    replace hT := Lib.hid hT
    clear c0 c1 c2 c3 c4 c8 c10 c11
    go_enter Tryz.func37, Tryz.ntmps37
    go_wp2
    refine Free.wp_region_chain (fun i => false) (fun i => true) (fun _ _ => False) (by kernel_rfl) (by kernel_rfl) (by kernel_rfl) ?_
    (repeat (first | (apply Free.cw_pure rfl rfl; (intro w'; go_simp <;> exact rfl); go_frame) | (apply Free.cw_steady rfl rfl rfl; (intro w' hS; have q0 := Free.sx_cell hS c5 (fun _ _ hT => hT); have q1 := Free.sx_cell hS c6 (fun _ _ hT => hT); go_simp <;> exact rfl); go_frame) | (refine Free.cw_skip rfl ?_; go_frame)))
    refine Free.cw_nil ?_
    obtain ⟨sa, hsa⟩ : ∃ sa, (if co = tn then ao else Option.map (fun x => x.add (tn * 3)) ao) = sa := ⟨_, rfl⟩
    replace hT : shQ.R w (.slice sa (LO - tn) (co - tn)) (t.op.drop tn) := by rw [← hLO.out, ← hsa]; exact hT.out
    replace hT := Lib.hid hT
    rw [hsa]
    clear hsa
    obtain ⟨M, hM⟩ : ∃ M, LO - tn = M := ⟨_, rfl⟩
    rw [hM] at hT ⊢
    obtain ⟨scap, hsc⟩ : ∃ M, co - tn = M := ⟨_, rfl⟩
    rw [hsc] at hT ⊢
    have hD : (t.qs.drop tn).length = M := by rw [List.length_drop, hLO2.out]; exact hM
    have hMl : M ≤ 100000 := by omega
    obtain ⟨R, hR, hRL⟩ := h.out.mp
    have hlook := fun (w' : World) (hb : w'.heap[bm]? = w.heap[bm]?) (q : Qn) (hq : qOk q) => MapS.M.look_ok ktQ (k := q) Tryz.underlying115 (aV .zero) zeroA (hR.at' hb) hq
    have hsome := fun (q : Qn) (u : Option Ans) (hm : (q, u) ∈ t.qs) => hRL.some h.out.inv.nd hm
    replace hlook := Lib.hid hlook
    replace hsome := Lib.hid hsome
    replace hD := Lib.hid hD
    clear hsc hRL hR
    go_wp2
    go_loopw [24, 3] (fun i ov wr => ∃ k : Nat, i = .int .i64 k ∧ k ≤ M ∧ shT.O wr w.heap.size tN ov (((t.qs.drop tn).take k).filterMap askOf) ∧ Keeps [] w wr) (fun i _ _ => M - (intOf i).toNat)
    case atStart => exact ⟨0, rfl, by omega, Sh.O.nil _ _ _ _, (Keeps.refl _ _).drew⟩
    case round =>
      obtain ⟨k, rfl, hk, hO, hkw⟩ := hrel
      obtain ⟨oa, oc, rfl⟩ := hO.form
      obtain ⟨NN, hNN⟩ : ∃ n, (((t.qs.drop tn).take k).filterMap askOf).length = n := ⟨_, rfl⟩
      have hNk : NN ≤ k := by rw [← hNN]; exact Nat.le_trans (List.length_filterMap_le _ _) (by simp; omega)
      rw [hNN] at hO ⊢
      by_cases hlt2 : k < M
      · have hki : k < (t.qs.drop tn).length := by rw [hD.out]; exact hlt2
        have hki2 : k < (t.op.drop tn).length := by rw [Tr.op, ← List.map_drop, List.length_map]; exact hki
        obtain ⟨⟨qq, uu⟩, hqq⟩ : ∃ p, (t.qs.drop tn)[k] = p := ⟨_, rfl⟩
        have hq2 : (t.op.drop tn)[k] = qq := by simp only [Tr.op, ← List.map_drop, List.getElem_map]; rw [hqq]
        have hmem : (qq, uu) ∈ t.qs := List.mem_of_mem_drop (hqq ▸ List.getElem_mem hki)
        have hqok : qOk qq := h.out.inv.ok qq (List.mem_map.2 ⟨_, hmem, rfl⟩)
        have hst := ask_step (t.qs.drop tn) k hki
        rw [hqq] at hst
        obtain ⟨g, o, c', hv, he⟩ := (hT.out.keeps hkw).elem hki2
        rw [hq2] at he
        rw [show (t.op.drop tn).length = M by rw [List.length_drop, hLO.out]; exact hM] at hv
        cases hv
        have hsm := hsome.out qq uu hmem
        have hlk := fun (w' : World) (hb : w'.heap[bm]? = w.heap[bm]?) => hlook.out w' hb qq hqok
        rw [hsm] at hlk
        obtain ⟨xv, hxv⟩ : ∃ xv : AnV, ((MapS.get qq R).map aV).getD (aV .zero) = aV xv := by
          cases MapS.get qq R with
          | none => exact ⟨_, rfl⟩
          | some u => exact ⟨u, rfl⟩
        rw [hxv] at hlk
        obtain ⟨v0, v1, v2, v3, v4, v5, v6, v7, v8, v9⟩ := xv
        obtain ⟨q0, q1, q2⟩ := qq
        have f0 := he 0 _ rfl
        have f1 := he 1 _ rfl
        have f2 := he 2 _ rfl
        simp only [shQ, Nat.add_zero] at f0 f1 f2
        simp only [ktQ, qV, aV, AnV.v] at hlk
        obtain ⟨ub, hub⟩ : ∃ b, uu.isSome = b := ⟨_, rfl⟩
        rw [hub] at hlk
        have d7 := hkw.val c7
        have hbm2 := hkw.block bm hlt.2 (by simp)
        have hwz := hkw.size
        replace hO := Lib.hid hO
        replace hkw := Lib.hid hkw
        replace hlk := Lib.hid hlk
        replace hst := Lib.hid hst
        replace hxv := Lib.hid hxv
        replace hub := Lib.hid hub
        replace hNN := Lib.hid hNN
        clear he hmem hqok hki hki2 hq2 hqq hsm
        go_wp2
        have hkA : Keeps [] wr (wr.alloc (.cells #[.int .i64 q0, .int .i64 q1, .int .u64 q2] tQ)) := (Keeps.refl _ _).alloc _
        have hbA := heap_alloc_new wr (.cells #[.int .i64 q0, .int .i64 q1, .int .u64 q2] tQ)
        have hzA : (wr.alloc (.cells #[.int .i64 q0, .int .i64 q1, .int .u64 q2] tQ)).heap.size = wr.heap.size + 1 := by simp
        generalize (wr.alloc (.cells #[.int .i64 q0, .int .i64 q1, .int .u64 q2] tQ)) = WA at *
        have hOA := hO.out.keeps hkA
        have hkwA := hkw.out.trans hkA
        have d7 := hkwA.val c7
        obtain ⟨r0, r1, r2⟩ := cells3t hbA
        have hbmA := (hkA.block bm (by omega) (by simp)).trans hbm2
        have hlkA := fun (w' : World) hb => hlk.out w' (Eq.trans hb hbmA)
        obtain ⟨XA, hXA⟩ : ∃ X, wr.heap.size = X := ⟨_, rfl⟩
        rw [hXA] at hzA hbA r0 r1 r2 hwz ⊢
        replace hOA := Lib.hid hOA
        replace hkwA := Lib.hid hkwA
        replace hbA := Lib.hid hbA
        replace hlkA := Lib.hid hlkA
        have hltA : bm < WA.heap.size := by omega
        clear hO hkw hkA hlk hbm2 f0 f1 f2 hbmA
        refine Free.wp_region_chain (fun i => i == 9 || i == 10) (fun i => true) (fun j b => j = 10 ∧ WA.heap.size ≤ b) (by kernel_rfl) (by kernel_rfl) (by kernel_rfl) ?_
        (repeat (first | (apply Free.cw_pure rfl rfl; (intro w'; go_simp <;> exact rfl); go_frame) | (apply Free.cw_steady rfl rfl rfl; (intro w' hS2; have z0 := Free.sx_cell hS2 d7 (fun _ _ hT => by omega); have z1 := Free.sx_cell hS2 r0 (fun _ _ hT => by omega); have z2 := Free.sx_cell hS2 r1 (fun _ _ hT => by omega); have z3 := Free.sx_cell hS2 r2 (fun _ _ hT => by omega); have z5 := hlkA.out w' (hS2.block bm hltA (fun ⟨_, _, _, hT⟩ => by omega)); go_simp <;> exact rfl); go_frame)))
        refine Free.cw_loud rfl rfl (fun K hK => ?_)
        go_wp2
        refine hK _ _ rfl (Free.KeepsP.alloc _ _ _) ?_
        clear hK K
        (repeat (apply Free.cw_pure rfl rfl; (intro w'; go_simp <;> exact rfl); go_frame))
        refine Free.cw_loud rfl rfl (fun K hK => ?_)
        go_wp2
        refine hK _ _ rfl (keepsP_remade (S := fun b => True ∧ WA.heap.size ≤ b) WA _ _ ⟨trivial, Nat.le_refl _⟩).drews ?_
        clear hK K
        (repeat (apply Free.cw_pure rfl rfl; (intro w'; go_simp <;> exact rfl); go_frame))
        refine Free.cw_nil ?_
        have hkB : Keeps [] WA ((WA.alloc (.cells #[.int .i64 v0, .int .i64 v1, .int .u64 v2, .int .i64 v3, .bool v4, .bool v5, .int .i64 v6, .slice v7 v8 v9] tA)).drew) := ((Keeps.refl _ _).alloc _).drew
        have hbB := (hkB.block XA (by omega) (by simp)).trans hbA.out
        obtain ⟨r0, r1, r2⟩ := cells3t hbB
        have hOB := hOA.out.keeps hkB
        have hkwB := hkwA.out.trans hkB
        generalize ((WA.alloc (.cells #[.int .i64 v0, .int .i64 v1, .int .u64 v2, .int .i64 v3, .bool v4, .bool v5, .int .i64 v6, .slice v7 v8 v9] tA)).drew) = WB at *
        clear hOA hkwA hbA hkB hbB hlkA
        cases ub with
        | true =>
          have hnone : askOf ((q0, q1, q2), uu) = none := by unfold askOf; rw [if_pos hub.out]
          rw [hnone, Option.toList_none, List.append_nil] at hst
          replace hst := Lib.hid hst.out
          rw [← hst.out] at hOB
          replace hOB := Lib.hid hOB
          replace hkwB := Lib.hid hkwB
          go_wp2
          go_roundw
          case rel => exact ⟨k + 1, rfl, by omega, hOB.out, hkwB.out⟩
          case measure => simp [intOf]; omega
        | false =>
          have hnone : askOf ((q0, q1, q2), uu) = some (q0, q2, q1) := by unfold askOf; rw [if_neg (by simp [hub.out])]
          rw [hnone, Option.toList_some] at hst
          replace hst := Lib.hid hst.out
          have hmade := Sh.O.one shT WB (q0, q2, q1) #[.int .i64 q0, .int .u64 q2, .int .i64 q1] tN 0 rfl (by omega)
          have hkC := (Keeps.refl [] WB).alloc (.cells #[.int .i64 q0, .int .u64 q2, .int .i64 q1] tN)
          have hOC := hOB.keeps hkC
          have hkwC := hkwB.trans hkC
          have hwC := hkwB.size
          replace hmade := Lib.hid hmade
          replace hOC := Lib.hid hOC
          replace hkwC := Lib.hid hkwC
          clear hOB hkwB hkC
          go_wp2_with (at_builtin; go_loud (refine Sh.wpl_app shT w.heap.size infoN rfl Tryz.underlying85 (.slice oa NN oc) (.slice (some ⟨WB.heap.size, 0, none⟩) 1 1) _ [(q0, q2, q1)] rfl _ _ rfl rfl rfl hOC.out hmade.out.r (by rw [hNN.out]; simp; omega) (by simp; omega) ?_; intro v5 w5 hO5 hG5; have hk5 := Sh.O.grew hkwC.out hOC.out hG5 (Nat.le_refl _); rw [← hst.out] at hO5; replace hO5 := Lib.hid hO5; replace hk5 := Lib.hid hk5; clear hG5))
          go_roundw
          case rel => exact ⟨k + 1, rfl, by omega, hO5.out, hk5.out⟩
          case measure => simp [intOf]; omega
      · have hkM : k = M := by omega
        subst hkM
        rw [List.take_of_length_le (by rw [hD.out]; omega)] at hO
        have hTr := h.out.keeps hkw
        have d5 := hTr.cells.2.2.2.2.2.1
        have hfrr := hTr.free
        have d6 := hTr.cells.2.2.2.2.2.2.1
        have hltr := hTr.lt
        have hne : ∀ b, (Value.slice oa NN oc).ownBlock = some b → b ≠ bt := fun b hb e => by
          subst e
          obtain ⟨cs, hc⟩ := hO.tag _ hb
          exact tag_ne hTr.blk hc (by decide) rfl
        replace hTr := Lib.hid hTr
        replace hO := Lib.hid hO
        replace hkw := Lib.hid hkw
        replace hne := Lib.hid hne
        go_wp2
        go_ret
        have hTf := hTr.out.setTold (LO : Int)
        obtain ⟨hkf, _⟩ := Keeps.setT (o := 6) hTr.out.blk (.int .i64 (LO : Int))
        exact ⟨.slice oa NN oc, rfl, hO.out.keepS hkf (fun b hb e => by simp at hb; exact hne.out b e hb), hTf, (Mv.nil hkw.out).trans (hTr.out.mvSet 6 _)⟩
end Go.Proofs.YtpobepninifenaaGreat

namespace Go.Proofs.YtpobepninifenaaGreat
open Go.RowKit

structure RfV where
  im : Int
  is : Int
  s0 : Int
  s1 : Nat
  s2 : Int
  st : Int
  vo : Option Addr × Nat × Nat
  va : Option Addr × Nat × Nat
  told : Int
  vg : Option Addr × Nat × Nat
  rf : Bool
  vh : Option Addr × Nat × Nat
def RfV.cs (x : RfV) : List Value := [.int .i64 x.im, .int .i64 x.is, .int .i64 x.s0, .int .u64 x.s1, .int .i64 x.s2, .int .i64 x.st, slv x.vo, slv x.va, .int .i64 x.told, slv x.vg, .bool x.rf, slv x.vh]
def rfV (x : RfV) : Value := .agg #[.int .i64 x.im, .int .i64 x.is, .int .i64 x.s0, .int .u64 x.s1, .int .i64 x.s2, .int .i64 x.st, slv x.vo, slv x.va, .int .i64 x.told, slv x.vg, .bool x.rf, slv x.vh]
abbrev tR : Nat := 88
/-- A question as the specification's need. -/
def ndq (q : Qn) : T3 := (q.1, q.2.2, q.2.1)
def RA1 (w : World) (x : AnV) : Option Ans → Prop
  | some a => InA w x a
  | none => x.kn = false
theorem InR.keeps {w w' : World} {x : AnV} {y : Ans} (h : InR w x y) (hk : Keeps [] w w') : InR w' x y := h.keep hk (by simp)
theorem InA.r {w : World} {x : AnV} {y : Ans} (h : InA w x y) : InR w x y := ⟨h.m, h.ow, h.n, h.ep, h.kn, h.rt, h.lu, h.ins.r⟩
theorem RA1.keeps {w w' : World} {x : AnV} {u : Option Ans} (h : RA1 w x u) (hk : Keeps [] w w') : RA1 w' x u := by
  cases u with
  | some a => exact InA.ki h hk.ki0
  | none => exact h
def RA (w : World) (X : List AnV) (qs : Qs) : Prop := X.length = qs.length ∧ ∀ (k : Nat) (x : AnV) (p : Qn × Option Ans), X[k]? = some x → qs[k]? = some p → RA1 w x p.2
theorem RA.keeps {w w' : World} {X : List AnV} {qs : Qs} (h : RA w X qs) (hk : Keeps [] w w') : RA w' X qs := ⟨h.1, fun k x p h1 h2 => (h.2 k x p h1 h2).keeps hk⟩
def LRd (w : World) (X : List AnV) (Y : List Ans) : Prop := X.length = Y.length ∧ ∀ (k : Nat) (x : AnV) (y : Ans), X[k]? = some x → Y[k]? = some y → InR w x y
theorem LRd.keeps {w w' : World} {X : List AnV} {Y : List Ans} (h : LRd w X Y) (hk : Keeps [] w w') : LRd w' X Y := ⟨h.1, fun k x p h1 h2 => (h.2 k x p h1 h2).keeps hk⟩
/-- The value says this trace. -/
structure RfR (w : World) (x : RfV) (t : Tr) : Prop where
  im : x.im = t.im
  is : x.is = t.is
  s0 : x.s0 = t.st.1
  s1 : x.s1 = t.st.2.1
  s2 : x.s2 = t.st.2.2
  st : x.st = t.state
  told : x.told = t.told
  rf : x.rf = t.rf
  op : shT.R w (slv x.vo) (t.op.map ndq)
  an : ∃ X, shA.R w (slv x.va) X ∧ RA w X t.qs
  ag : shZ.R w (slv x.vg) t.ag
  hi : ∃ X, shA.R w (slv x.vh) X ∧ LA w X t.hist
theorem RfR.keeps {w w' : World} {x : RfV} {t : Tr} (h : RfR w x t) (hk : Keeps [] w w') : RfR w' x t := by
  obtain ⟨X, hX, hXR⟩ := h.an
  obtain ⟨Z, hZ, hZR⟩ := h.hi
  exact ⟨h.im, h.is, h.s0, h.s1, h.s2, h.st, h.told, h.rf, h.op.keeps hk, ⟨X, hX.keeps hk, hXR.keeps hk⟩, h.ag.keeps hk, ⟨Z, hZ.keeps hk, hZR.ki hk.ki0⟩⟩
/-- The blocks of a value's lists. -/
def blks (x : RfV) : List Nat := (slv x.vo).ownBlock.toList ++ ((slv x.va).ownBlock.toList ++ ((slv x.vg).ownBlock.toList ++ (slv x.vh).ownBlock.toList))
/-- The new value's lists lie where the old one's lay, or in new blocks. -/
def Fsh (w w' : World) (x x' : RfV) : Prop := ∀ b ∈ blks x', b ∈ blks x ∨ (w.heap.size ≤ b ∧ b < w'.heap.size)
theorem mem_blks {x : RfV} {b : Nat} : b ∈ blks x ↔ (slv x.vo).ownBlock = some b ∨ (slv x.va).ownBlock = some b ∨ (slv x.vg).ownBlock = some b ∨ (slv x.vh).ownBlock = some b := by simp [blks]
theorem cells12 {w : World} {b : Nat} {x0 x1 x2 x3 x4 x5 x6 x7 x8 x9 x10 x11 : Value} {t : TypeId} (h : w.heap[b]? = some (.cells #[x0, x1, x2, x3, x4, x5, x6, x7, x8, x9, x10, x11] t (0, 0))) :
    w.cell? ⟨b, 0, none⟩ = some x0 ∧ w.cell? ⟨b, 1, none⟩ = some x1 ∧ w.cell? ⟨b, 2, none⟩ = some x2 ∧ w.cell? ⟨b, 3, none⟩ = some x3 ∧ w.cell? ⟨b, 4, none⟩ = some x4 ∧ w.cell? ⟨b, 5, none⟩ = some x5 ∧ w.cell? ⟨b, 6, none⟩ = some x6 ∧ w.cell? ⟨b, 7, none⟩ = some x7 ∧
    w.cell? ⟨b, 8, none⟩ = some x8 ∧ w.cell? ⟨b, 9, none⟩ = some x9 ∧ w.cell? ⟨b, 10, none⟩ = some x10 ∧ w.cell? ⟨b, 11, none⟩ = some x11 ∧ (∀ o, w.frozen? ⟨b, o, none⟩ = false) ∧ b < w.heap.size := by
  refine ⟨?_, ?_, ?_, ?_, ?_, ?_, ?_, ?_, ?_, ?_, ?_, ?_, fun o => ?_, lt_of_blk h⟩ <;> simp [World.cell?, World.frozen?, h]
theorem RA.kn {w : World} {X : List AnV} {t : Tr} (h : RA w X t.qs) (hr : ∀ p ∈ t.rec', p.2.kn = true) {k : Nat} (hk : k < t.qs.length) : ∃ hx : k < X.length, X[k].kn = t.qs[k].2.isSome := by
  have hx : k < X.length := by rw [h.1]; exact hk
  refine ⟨hx, ?_⟩
  have h1 := h.2 k _ _ (List.getElem?_eq_getElem hx) (List.getElem?_eq_getElem hk)
  obtain ⟨⟨q, u⟩, hq⟩ : ∃ p, t.qs[k] = p := ⟨_, rfl⟩
  rw [hq] at h1 ⊢
  cases u with
  | none => exact h1
  | some a =>
    have h2 : InA w X[k] a := h1
    rw [h2.kn]
    exact hr (q, a) (recOf_keys.2 (hq ▸ List.getElem_mem hk))
set_option maxRecDepth 100000 in
set_option maxHeartbeats 2000000 in
theorem answeredR_c (w : World) (x : RfV) (t : Tr) (k : Nat) (h : RfR w x t) (hr : ∀ p ∈ t.rec', p.2.kn = true) (hk : k < t.qs.length) :
    Calls Tryz.prog 76 #[rfV x, .int .i64 k] w fun e w' => e = .returned (.bool t.qs[k].2.isSome) ∧ Keeps [] w w' := by
  obtain ⟨X, hX, hXR⟩ := h.an
  obtain ⟨hkX, hkn⟩ := hXR.kn hr hk
  obtain ⟨x0, x1, x2, x3, x4, x5, ⟨x6, x7, x8⟩, ⟨x9, x10, x11⟩, x12, ⟨x13, x14, x15⟩, x16, ⟨x17, x18, x19⟩⟩ := x
  simp only [slv] at hX
  obtain ⟨g, o, c, hv, he⟩ := hX.elem hkX
  obtain ⟨ax, cx, _, hl1, hl2, _⟩ := hX.form
  obtain ⟨M, hM⟩ : ∃ n, X.length = n := ⟨_, rfl⟩
  rw [hM] at hv hkX hl1
  cases hv
  have e4 := he 4 _ rfl
  simp only [shA] at e4
  rw [hkn] at e4
  have hltg := lt_of_cell e4
  obtain ⟨b, hb⟩ : ∃ b, t.qs[k].2.isSome = b := ⟨_, rfl⟩
  rw [hb] at e4 ⊢
  have hMm : x10 ≤ 9223372036854775807 := by unfold maxLen at hl2; omega
  have hkA : Keeps [] w (w.alloc (.cells #[.int .i64 x0, .int .i64 x1, .int .i64 x2, .int .u64 x3, .int .i64 x4, .int .i64 x5, .slice x6 x7 x8, (.slice (some ⟨g, o, none⟩) x10 x11), .int .i64 x12, .slice x13 x14 x15, .bool x16, .slice x17 x18 x19] tR)) := (Keeps.refl _ _).alloc _
  replace hkA := Lib.hid hkA
  replace hM := Lib.hid hM
  replace hb := Lib.hid hb
  replace hX := Lib.hid hX
  replace hXR := Lib.hid hXR
  clear h he hkn hr hl2
  simp only [rfV, slv]
  go_enter Tryz.func76, Tryz.ntmps76
  go_wp2
  go_ret
  exact ⟨rfl, hkA.out⟩
/-- Where a question lies. -/
def IdxPost (t : Tr) (q : Qn) (i : Int) : Prop := (∃ k : Nat, ∃ hk : k < t.qs.length, i = k ∧ t.qs[k].1 = q) ∨ (i = -1 ∧ q ∉ t.op)
set_option maxRecDepth 100000 in
set_option maxHeartbeats 2000000 in
theorem indexR_c (w : World) (x : RfV) (t : Tr) (q : Qn) (h : RfR w x t) :
    Calls Tryz.prog 75 #[rfV x, tV (ndq q)] w fun e w' => ∃ i : Int, e = .returned (.int .i64 i) ∧ IdxPost t q i ∧ Keeps [] w w' := by
  have hO := h.op
  obtain ⟨x0, x1, x2, x3, x4, x5, ⟨x6, x7, x8⟩, ⟨x9, x10, x11⟩, x12, ⟨x13, x14, x15⟩, x16, ⟨x17, x18, x19⟩⟩ := x
  simp only [slv] at hO
  obtain ⟨a, c, hv, hl1, hl2, _⟩ := hO.form
  have hel := fun k hk => hO.elem (k := k) hk
  obtain ⟨M, hM⟩ : ∃ n, (t.op.map ndq).length = n := ⟨_, rfl⟩
  have hMq : t.qs.length = M := by rw [← hM]; simp [Tr.op]
  rw [hM] at hv hl1
  cases hv
  have hMm : x7 ≤ 9223372036854775807 := by unfold maxLen at hl2; omega
  obtain ⟨q0, q1, q2⟩ := q
  have hb1 := heap_alloc_new (w.alloc (.cells #[.int .i64 x0, .int .i64 x1, .int .i64 x2, .int .u64 x3, .int .i64 x4, .int .i64 x5, .slice x6 x7 x8, .slice x9 x10 x11, .int .i64 x12, .slice x13 x14 x15, .bool x16, .slice x17 x18 x19] tR)) (.cells #[.int .i64 q0, .int .u64 q2, .int .i64 q1] tN)
  have hb0 := ((Keeps.refl [] (w.alloc (.cells #[.int .i64 x0, .int .i64 x1, .int .i64 x2, .int .u64 x3, .int .i64 x4, .int .i64 x5, .slice x6 x7 x8, .slice x9 x10 x11, .int .i64 x12, .slice x13 x14 x15, .bool x16, .slice x17 x18 x19] tR))).alloc (.cells #[.int .i64 q0, .int .u64 q2, .int .i64 q1] tN)).block _ (by simp) (by simp) |>.trans (heap_alloc_new w (.cells #[.int .i64 x0, .int .i64 x1, .int .i64 x2, .int .u64 x3, .int .i64 x4, .int .i64 x5, .slice x6 x7 x8, .slice x9 x10 x11, .int .i64 x12, .slice x13 x14 x15, .bool x16, .slice x17 x18 x19] tR))
  have hkA : Keeps [] w ((w.alloc (.cells #[.int .i64 x0, .int .i64 x1, .int .i64 x2, .int .u64 x3, .int .i64 x4, .int .i64 x5, .slice x6 x7 x8, .slice x9 x10 x11, .int .i64 x12, .slice x13 x14 x15, .bool x16, .slice x17 x18 x19] tR)).alloc (.cells #[.int .i64 q0, .int .u64 q2, .int .i64 q1] tN)) := ((Keeps.refl _ _).alloc _).alloc _
  rw [show (w.alloc (.cells #[.int .i64 x0, .int .i64 x1, .int .i64 x2, .int .u64 x3, .int .i64 x4, .int .i64 x5, .slice x6 x7 x8, .slice x9 x10 x11, .int .i64 x12, .slice x13 x14 x15, .bool x16, .slice x17 x18 x19] tR)).heap.size = w.heap.size + 1 by simp] at hb1
  replace hb0 := Lib.hid hb0
  replace hb1 := Lib.hid hb1
  replace hkA := Lib.hid hkA
  replace hel := Lib.hid hel
  replace hM := Lib.hid hM
  replace hMq := Lib.hid hMq
  clear h hO hl2
  simp only [rfV, slv, ndq, tV]
  go_enter Tryz.func75, Tryz.ntmps75
  go_wp2
  generalize ((w.alloc (.cells #[.int .i64 x0, .int .i64 x1, .int .i64 x2, .int .u64 x3, .int .i64 x4, .int .i64 x5, .slice x6 x7 x8, .slice x9 x10 x11, .int .i64 x12, .slice x13 x14 x15, .bool x16, .slice x17 x18 x19] tR)).alloc (.cells #[.int .i64 q0, .int .u64 q2, .int .i64 q1] tN)) = W at *
  go_loopw [5] (fun i wr => ∃ k : Nat, i = .int .i64 k ∧ k ≤ x7 ∧ Hid (∀ j (hj : j < t.qs.length), j < k → t.qs[j].1 ≠ (q0, q1, q2)) ∧ Hid (Keeps [] W wr)) (fun i _ => x7 - (intOf i).toNat)
  case atStart => exact ⟨0, rfl, by omega, Lib.hid (fun _ _ h => by omega), Lib.hid (Keeps.refl _ _)⟩
  case round =>
    obtain ⟨k, rfl, hk, hno, hkr⟩ := hrel
    have hbr := (hkr.out.block _ (lt_of_blk hb0.out) (by simp)).trans hb0.out
    obtain ⟨y0, y1, y2⟩ := cells3t ((hkr.out.block _ (lt_of_blk hb1.out) (by simp)).trans hb1.out)
    have y6 := (cells12 hbr).2.2.2.2.2.2.1
    have hkw := hkA.out.trans hkr.out
    replace hkw := Lib.hid hkw
    clear hbr
    by_cases hlt : k < x7
    · have hkq : k < t.qs.length := by rw [hMq.out]; exact hlt
      obtain ⟨g, o, c', hv, he⟩ := hel.out k (by rw [hM.out]; exact hlt)
      rw [hM.out] at hv
      cases hv
      obtain ⟨⟨⟨p0, p1, p2⟩, pu⟩, hp⟩ : ∃ p, t.qs[k] = p := ⟨_, rfl⟩
      have hpe : (t.op.map ndq)[k]'(by rw [hM.out]; exact hlt) = (p0, p2, p1) := by simp [Tr.op, hp, ndq]
      rw [hpe] at he
      have e0 := hkw.out.val (he 0 _ rfl)
      have e1 := hkw.out.val (he 1 _ rfl)
      have e2 := hkw.out.val (he 2 _ rfl)
      simp only [shT, Nat.add_zero] at e0 e1 e2
      have hq := fun w => eqN w (p0, p2, p1) (q0, q2, q1)
      simp only [tV] at hq
      replace hp := Lib.hid hp
      clear he hpe
      by_cases hx : (p0, p2, p1) = (q0, q2, q1)
      · rw [decide_eq_true hx] at hq
        replace hx := Lib.hid hx
        go_wp2
        (refine wp_region_quiet_lit (by kernel_rfl) (by kernel_rfl) ?_; (repeat (first | go_big_quiet_step (fail) | quiet_step (fail))); with_reducible refine wpQuiet_nil ?_; intro _ hw'; obtain ⟨nq, hw''⟩ := hw'; subst hw'')
        go_wp2
        go_ret
        refine ⟨k, rfl, .inl ⟨k, hkq, rfl, ?_⟩, hkw.out.drewN _⟩
        have := hx.out
        simp only [Prod.mk.injEq] at this
        rw [hp.out, this.1, this.2.1, this.2.2]
      · rw [decide_eq_false hx] at hq
        have hno2 : ∀ j (hj : j < t.qs.length), j < k + 1 → t.qs[j].1 ≠ (q0, q1, q2) := fun j hj hjk => by
          by_cases e : j = k
          · subst e
            rw [hp.out]
            intro e2
            simp only [Prod.mk.injEq] at e2
            exact hx (by rw [e2.1, e2.2.1, e2.2.2])
          · exact hno.out j hj (by omega)
        replace hno2 := Lib.hid hno2
        replace hx := Lib.hid hx
        go_wp2
        (refine wp_region_quiet_lit (by kernel_rfl) (by kernel_rfl) ?_; (repeat (first | go_big_quiet_step (fail) | quiet_step (fail))); with_reducible refine wpQuiet_nil ?_; intro _ hw'; obtain ⟨nq, hw''⟩ := hw'; subst hw'')
        go_wp2
        go_roundw
        case rel => exact ⟨k + 1, rfl, by omega, hno2, Lib.hid (hkr.out.drewN _)⟩
        case measure => simp [intOf]; omega
    · go_wp2
      go_ret
      exact ⟨-1, rfl, .inr ⟨rfl, fun hm => by
        obtain ⟨p, hp, e⟩ := List.mem_map.1 hm
        obtain ⟨j, hj, rfl⟩ := List.mem_iff_getElem.1 hp
        exact hno.out j hj (by rw [hMq.out] at hj; omega) e⟩, hkw.out⟩
end Go.Proofs.YtpobepninifenaaGreat

namespace Go.Proofs.YtpobepninifenaaGreat
open Go.RowKit

theorem sizeR : (Tryz.prog.info? tR).map (·.size) = some 12 := by kernel_rfl
theorem load_rf (w : World) (g : Nat) (t : TypeId) (x0 x1 x2 x3 x4 x5 x6 x7 x8 x9 x10 x11 : Value) (f : Nat × Nat) (hg : w.heap[g]? = some (.cells #[x0, x1, x2, x3, x4, x5, x6, x7, x8, x9, x10, x11] t f)) : (loadVar tR ⟨g, 0, none⟩).run Tryz.prog w = .ok (.agg #[x0, x1, x2, x3, x4, x5, x6, x7, x8, x9, x10, x11]) w :=
  run_loadVar_row w g t tR #[x0, x1, x2, x3, x4, x5, x6, x7, x8, x9, x10, x11] f _ hg Tryz.underlying88 rfl sizeR
theorem results_rf {fn : Func} {p u : Tmp} (h : fn.results = #[.cell p tR, .tmp u]) (tmps : Array Value) (w : World) (g : Nat) (t : TypeId) (x0 x1 x2 x3 x4 x5 x6 x7 x8 x9 x10 x11 : Value) (f : Nat × Nat) (hp : tmps.getD p undef = .pointer (some ⟨g, 0, none⟩))
    (hg : w.heap[g]? = some (.cells #[x0, x1, x2, x3, x4, x5, x6, x7, x8, x9, x10, x11] t f)) : (results fn tmps).run Tryz.prog w = .ok (.tuple #[.agg #[x0, x1, x2, x3, x4, x5, x6, x7, x8, x9, x10, x11], tmps.getD u undef]) w := by
  have hp' : tmps[p]?.getD undef = .pointer (some ⟨g, 0, none⟩) := by simpa using hp
  simp [results, h, hp', asAddr, load_rf w g t x0 x1 x2 x3 x4 x5 x6 x7 x8 x9 x10 x11 f hg]
/-- Twelve cells are stored. -/
theorem st12 {w : World} {X : Nat} {t : TypeId} {x0 x1 x2 x3 x4 x5 x6 x7 x8 x9 x10 x11 u0 u1 u2 u3 u4 u5 u6 u7 u8 u9 u10 u11 : Value} (h2 : w.heap[X]? = some (.cells #[u0, u1, u2, u3, u4, u5, u6, u7, u8, u9, u10, u11] t (0, 0))) :
    ((((((((((((w.setCell ⟨X, 0, none⟩ x0).setCell ⟨X, 1, none⟩ x1).setCell ⟨X, 2, none⟩ x2).setCell ⟨X, 3, none⟩ x3).setCell ⟨X, 4, none⟩ x4).setCell ⟨X, 5, none⟩ x5).setCell ⟨X, 6, none⟩ x6).setCell ⟨X, 7, none⟩ x7).setCell ⟨X, 8, none⟩ x8).setCell ⟨X, 9, none⟩ x9).setCell ⟨X, 10, none⟩ x10).setCell ⟨X, 11, none⟩ x11).heap[X]? = some (.cells #[x0, x1, x2, x3, x4, x5, x6, x7, x8, x9, x10, x11] t (0, 0)) ∧
    Keeps [X] w ((((((((((((w.setCell ⟨X, 0, none⟩ x0).setCell ⟨X, 1, none⟩ x1).setCell ⟨X, 2, none⟩ x2).setCell ⟨X, 3, none⟩ x3).setCell ⟨X, 4, none⟩ x4).setCell ⟨X, 5, none⟩ x5).setCell ⟨X, 6, none⟩ x6).setCell ⟨X, 7, none⟩ x7).setCell ⟨X, 8, none⟩ x8).setCell ⟨X, 9, none⟩ x9).setCell ⟨X, 10, none⟩ x10).setCell ⟨X, 11, none⟩ x11) := by
  have hk : Keeps [X] w ((((((((((((w.setCell ⟨X, 0, none⟩ x0).setCell ⟨X, 1, none⟩ x1).setCell ⟨X, 2, none⟩ x2).setCell ⟨X, 3, none⟩ x3).setCell ⟨X, 4, none⟩ x4).setCell ⟨X, 5, none⟩ x5).setCell ⟨X, 6, none⟩ x6).setCell ⟨X, 7, none⟩ x7).setCell ⟨X, 8, none⟩ x8).setCell ⟨X, 9, none⟩ x9).setCell ⟨X, 10, none⟩ x10).setCell ⟨X, 11, none⟩ x11) := by
    refine ((((((((((((Keeps.refl _ w).setCell ?_ _).setCell ?_ _).setCell ?_ _).setCell ?_ _).setCell ?_ _).setCell ?_ _).setCell ?_ _).setCell ?_ _).setCell ?_ _).setCell ?_ _).setCell ?_ _).setCell ?_ _ <;> exact .inr (by simp)
  refine ⟨?_, hk⟩
  clear hk
  have s1 := setCs h2 0 x0
  generalize w.setCell ⟨X, 0, none⟩ x0 = w1 at s1 ⊢
  have s2 := setCs s1 1 x1
  generalize w1.setCell ⟨X, 1, none⟩ x1 = w2 at s2 ⊢
  have s3 := setCs s2 2 x2
  generalize w2.setCell ⟨X, 2, none⟩ x2 = w3 at s3 ⊢
  have s4 := setCs s3 3 x3
  generalize w3.setCell ⟨X, 3, none⟩ x3 = w4 at s4 ⊢
  have s5 := setCs s4 4 x4
  generalize w4.setCell ⟨X, 4, none⟩ x4 = w5 at s5 ⊢
  have s6 := setCs s5 5 x5
  generalize w5.setCell ⟨X, 5, none⟩ x5 = w6 at s6 ⊢
  have s7 := setCs s6 6 x6
  generalize w6.setCell ⟨X, 6, none⟩ x6 = w7 at s7 ⊢
  have s8 := setCs s7 7 x7
  generalize w7.setCell ⟨X, 7, none⟩ x7 = w8 at s8 ⊢
  have s9 := setCs s8 8 x8
  generalize w8.setCell ⟨X, 8, none⟩ x8 = w9 at s9 ⊢
  have s10 := setCs s9 9 x9
  generalize w9.setCell ⟨X, 9, none⟩ x9 = w10 at s10 ⊢
  have s11 := setCs s10 10 x10
  generalize w10.setCell ⟨X, 10, none⟩ x10 = w11 at s11 ⊢
  have s12 := setCs s11 11 x11
  simpa using s12
def QsRPost (w : World) (x0 : RfV) (r : Tr × List T3) (e : Ending) (w' : World) : Prop := ∃ x v, e = .returned (.tuple #[rfV x, v]) ∧ RfR w' x r.1 ∧ shT.O w' w.heap.size tN v r.2 ∧ Keeps [] w w' ∧ Fsh w w' x0 x
set_option maxRecDepth 100000 in
set_option maxHeartbeats 10000000 in
theorem queriesR_c (w : World) (x : RfV) (t : Tr) (tn : Nat) (h : RfR w x t) (hr : ∀ p ∈ t.rec', p.2.kn = true) (ht : t.told = tn) (htn : tn ≤ t.qs.length) (hl : t.qs.length ≤ 100000) :
    Calls Tryz.prog 35 #[rfV x] w (QsRPost w x t.queries) := by
  have hO := h.op
  have hst := h.st
  have htl := h.told
  have hkB0 : ∀ A : Obj, Keeps [] w (w.alloc A) := fun A => (Keeps.refl _ _).alloc _
  by_cases hs : t.state = 0
  case neg =>
    have hq : t.queries = (t, []) := by unfold Tr.queries; rw [if_pos hs]
    rw [hq]
    obtain ⟨x0, x1, x2, x3, x4, x5, ⟨x6, x7, x8⟩, ⟨x9, x10, x11⟩, x12, ⟨x13, x14, x15⟩, x16, ⟨x17, x18, x19⟩⟩ := x
    simp only [slv] at hst htl
    have hsb : (x5 != 0) = true := by rw [hst]; simpa using hs
    have hb1 := heap_alloc_new (w.alloc (.cells #[.int .i64 x0, .int .i64 x1, .int .i64 x2, .int .u64 x3, .int .i64 x4, .int .i64 x5, .slice x6 x7 x8, .slice x9 x10 x11, .int .i64 x12, .slice x13 x14 x15, .bool x16, .slice x17 x18 x19] tR)) (.cells #[.int .i64 x0, .int .i64 x1, .int .i64 x2, .int .u64 x3, .int .i64 x4, .int .i64 x5, .slice x6 x7 x8, .slice x9 x10 x11, .int .i64 x12, .slice x13 x14 x15, .bool x16, .slice x17 x18 x19] tR)
    rw [show (w.alloc (.cells #[.int .i64 x0, .int .i64 x1, .int .i64 x2, .int .u64 x3, .int .i64 x4, .int .i64 x5, .slice x6 x7 x8, .slice x9 x10 x11, .int .i64 x12, .slice x13 x14 x15, .bool x16, .slice x17 x18 x19] tR)).heap.size = w.heap.size + 1 by simp] at hb1
    have hkA : Keeps [] w (((w.alloc (.cells #[.int .i64 x0, .int .i64 x1, .int .i64 x2, .int .u64 x3, .int .i64 x4, .int .i64 x5, .slice x6 x7 x8, .slice x9 x10 x11, .int .i64 x12, .slice x13 x14 x15, .bool x16, .slice x17 x18 x19] tR)).alloc (.cells #[.int .i64 x0, .int .i64 x1, .int .i64 x2, .int .u64 x3, .int .i64 x4, .int .i64 x5, .slice x6 x7 x8, .slice x9 x10 x11, .int .i64 x12, .slice x13 x14 x15, .bool x16, .slice x17 x18 x19] tR)).alloc (.cells #[] tN)) := (((Keeps.refl _ _).alloc _).alloc _).alloc _
    have hb2 := ((Keeps.refl [] ((w.alloc (.cells #[.int .i64 x0, .int .i64 x1, .int .i64 x2, .int .u64 x3, .int .i64 x4, .int .i64 x5, .slice x6 x7 x8, .slice x9 x10 x11, .int .i64 x12, .slice x13 x14 x15, .bool x16, .slice x17 x18 x19] tR)).alloc (.cells #[.int .i64 x0, .int .i64 x1, .int .i64 x2, .int .u64 x3, .int .i64 x4, .int .i64 x5, .slice x6 x7 x8, .slice x9 x10 x11, .int .i64 x12, .slice x13 x14 x15, .bool x16, .slice x17 x18 x19] tR))).alloc (.cells #[] tN)).block _ (lt_of_blk hb1) (by simp) |>.trans hb1
    have hfr := Sh.O.fresh shT ((w.alloc (.cells #[.int .i64 x0, .int .i64 x1, .int .i64 x2, .int .u64 x3, .int .i64 x4, .int .i64 x5, .slice x6 x7 x8, .slice x9 x10 x11, .int .i64 x12, .slice x13 x14 x15, .bool x16, .slice x17 x18 x19] tR)).alloc (.cells #[.int .i64 x0, .int .i64 x1, .int .i64 x2, .int .u64 x3, .int .i64 x4, .int .i64 x5, .slice x6 x7 x8, .slice x9 x10 x11, .int .i64 x12, .slice x13 x14 x15, .bool x16, .slice x17 x18 x19] tR)) w.heap.size tN (by simp; omega)
    rw [show ((w.alloc (.cells #[.int .i64 x0, .int .i64 x1, .int .i64 x2, .int .u64 x3, .int .i64 x4, .int .i64 x5, .slice x6 x7 x8, .slice x9 x10 x11, .int .i64 x12, .slice x13 x14 x15, .bool x16, .slice x17 x18 x19] tR)).alloc (.cells #[.int .i64 x0, .int .i64 x1, .int .i64 x2, .int .u64 x3, .int .i64 x4, .int .i64 x5, .slice x6 x7 x8, .slice x9 x10 x11, .int .i64 x12, .slice x13 x14 x15, .bool x16, .slice x17 x18 x19] tR)).heap.size = w.heap.size + 1 + 1 by simp] at hfr
    replace h := Lib.hid h
    replace hkA := Lib.hid hkA
    replace hb2 := Lib.hid hb2
    replace hfr := Lib.hid hfr
    replace hs := Lib.hid hs
    clear hb1 hO hst htl hq
    simp only [rfV, slv]
    go_enter Tryz.func35, Tryz.ntmps35
    go_wp2
    refine bodyPost_ret (results_rf rfl _ _ _ _ _ _ _ _ _ _ _ _ _ _ _ _ _ rfl hb2.out) ?_ ?_
    · rfl
    · exact ⟨⟨x0, x1, x2, x3, x4, x5, (x6, x7, x8), (x9, x10, x11), x12, (x13, x14, x15), x16, (x17, x18, x19)⟩, _, rfl, h.out.keeps hkA.out, hfr.out, hkA.out, fun b hb => .inl hb⟩
  case pos =>
    have hq : t.queries = ({ t with told := t.qs.length }, (t.qs.drop tn).filterMap askOf) := by unfold Tr.queries; rw [if_neg (by simp [hs]), ht]; rfl
    rw [hq]
    have hel := fun k hk => hO.elem (k := k) hk
    have hans := fun (W : World) (hk : Keeps [] w W) (k : Nat) (hkq : k < t.qs.length) => answeredR_c W x t k (h.keeps hk) hr hkq
    obtain ⟨_, _, -, hl1, hl2, -⟩ := hO.form
    obtain ⟨x0, x1, x2, x3, x4, x5, ⟨x6, x7, x8⟩, ⟨x9, x10, x11⟩, x12, ⟨x13, x14, x15⟩, x16, ⟨x17, x18, x19⟩⟩ := x
    simp only [slv, rfV] at hst htl hel hans hO
    have hx7 : t.qs.length = x7 := by
      obtain ⟨_, _, e, _⟩ := hO.form
      simp only [Value.slice.injEq] at e
      rw [e.2.1]; simp [Tr.op]
    have hx12 : x12 = tn := by rw [htl, ht]
    have hx5 : x5 = 0 := by rw [hst, hs]
    subst hx12 hx5
    rw [hx7] at htn hl ⊢
    have hb1 := heap_alloc_new (w.alloc (.cells #[.int .i64 x0, .int .i64 x1, .int .i64 x2, .int .u64 x3, .int .i64 x4, .int .i64 0, .slice x6 x7 x8, .slice x9 x10 x11, .int .i64 tn, .slice x13 x14 x15, .bool x16, .slice x17 x18 x19] tR)) (.cells #[.int .i64 0, .int .i64 0, .int .i64 0, .int .u64 0, .int .i64 0, .int .i64 0, .slice none 0 0, .slice none 0 0, .int .i64 0, .slice none 0 0, .bool false, .slice none 0 0] tR)
    rw [show (w.alloc (.cells #[.int .i64 x0, .int .i64 x1, .int .i64 x2, .int .u64 x3, .int .i64 x4, .int .i64 0, .slice x6 x7 x8, .slice x9 x10 x11, .int .i64 tn, .slice x13 x14 x15, .bool x16, .slice x17 x18 x19] tR)).heap.size = w.heap.size + 1 by simp] at hb1
    have hkA : Keeps [] w (((w.alloc (.cells #[.int .i64 x0, .int .i64 x1, .int .i64 x2, .int .u64 x3, .int .i64 x4, .int .i64 0, .slice x6 x7 x8, .slice x9 x10 x11, .int .i64 tn, .slice x13 x14 x15, .bool x16, .slice x17 x18 x19] tR)).alloc (.cells #[.int .i64 0, .int .i64 0, .int .i64 0, .int .u64 0, .int .i64 0, .int .i64 0, .slice none 0 0, .slice none 0 0, .int .i64 0, .slice none 0 0, .bool false, .slice none 0 0] tR)).alloc (.cells #[] tN)) := (((Keeps.refl _ _).alloc _).alloc _).alloc _
    have hb2 := ((Keeps.refl [] ((w.alloc (.cells #[.int .i64 x0, .int .i64 x1, .int .i64 x2, .int .u64 x3, .int .i64 x4, .int .i64 0, .slice x6 x7 x8, .slice x9 x10 x11, .int .i64 tn, .slice x13 x14 x15, .bool x16, .slice x17 x18 x19] tR)).alloc (.cells #[.int .i64 0, .int .i64 0, .int .i64 0, .int .u64 0, .int .i64 0, .int .i64 0, .slice none 0 0, .slice none 0 0, .int .i64 0, .slice none 0 0, .bool false, .slice none 0 0] tR))).alloc (.cells #[] tN)).block _ (lt_of_blk hb1) (by simp) |>.trans hb1
    have hb3 := (((Keeps.refl [] (w.alloc (.cells #[.int .i64 x0, .int .i64 x1, .int .i64 x2, .int .u64 x3, .int .i64 x4, .int .i64 0, .slice x6 x7 x8, .slice x9 x10 x11, .int .i64 tn, .slice x13 x14 x15, .bool x16, .slice x17 x18 x19] tR))).alloc (.cells #[.int .i64 0, .int .i64 0, .int .i64 0, .int .u64 0, .int .i64 0, .int .i64 0, .slice none 0 0, .slice none 0 0, .int .i64 0, .slice none 0 0, .bool false, .slice none 0 0] tR)).alloc (.cells #[] tN)).block _ (by simp) (by simp) |>.trans (heap_alloc_new w (.cells #[.int .i64 x0, .int .i64 x1, .int .i64 x2, .int .u64 x3, .int .i64 x4, .int .i64 0, .slice x6 x7 x8, .slice x9 x10 x11, .int .i64 tn, .slice x13 x14 x15, .bool x16, .slice x17 x18 x19] tR))
    have hfr := Sh.O.fresh shT ((w.alloc (.cells #[.int .i64 x0, .int .i64 x1, .int .i64 x2, .int .u64 x3, .int .i64 x4, .int .i64 0, .slice x6 x7 x8, .slice x9 x10 x11, .int .i64 tn, .slice x13 x14 x15, .bool x16, .slice x17 x18 x19] tR)).alloc (.cells #[.int .i64 0, .int .i64 0, .int .i64 0, .int .u64 0, .int .i64 0, .int .i64 0, .slice none 0 0, .slice none 0 0, .int .i64 0, .slice none 0 0, .bool false, .slice none 0 0] tR)) w.heap.size tN (by simp; omega)
    rw [show ((w.alloc (.cells #[.int .i64 x0, .int .i64 x1, .int .i64 x2, .int .u64 x3, .int .i64 x4, .int .i64 0, .slice x6 x7 x8, .slice x9 x10 x11, .int .i64 tn, .slice x13 x14 x15, .bool x16, .slice x17 x18 x19] tR)).alloc (.cells #[.int .i64 0, .int .i64 0, .int .i64 0, .int .u64 0, .int .i64 0, .int .i64 0, .slice none 0 0, .slice none 0 0, .int .i64 0, .slice none 0 0, .bool false, .slice none 0 0] tR)).heap.size = w.heap.size + 1 + 1 by simp] at hfr
    replace h := Lib.hid h
    replace hkA := Lib.hid hkA
    replace hb2 := Lib.hid hb2
    replace hb3 := Lib.hid hb3
    replace hfr := Lib.hid hfr
    replace hel := Lib.hid hel
    replace hans := Lib.hid hans
    replace hs := Lib.hid hs
    replace hx7 := Lib.hid hx7
    replace hO := Lib.hid hO
    clear hb1 hst htl hq hkB0 hr
    simp only [rfV, slv]
    go_enter Tryz.func35, Tryz.ntmps35
    go_wp2
    generalize (((w.alloc (.cells #[.int .i64 x0, .int .i64 x1, .int .i64 x2, .int .u64 x3, .int .i64 x4, .int .i64 0, .slice x6 x7 x8, .slice x9 x10 x11, .int .i64 tn, .slice x13 x14 x15, .bool x16, .slice x17 x18 x19] tR)).alloc (.cells #[.int .i64 0, .int .i64 0, .int .i64 0, .int .u64 0, .int .i64 0, .int .i64 0, .slice none 0 0, .slice none 0 0, .int .i64 0, .slice none 0 0, .bool false, .slice none 0 0] tR)).alloc (.cells #[] tN)) = W at *
    go_loopw [4, 5] (fun ov i wr => ∃ k : Nat, i = .int .i64 k ∧ tn ≤ k ∧ k ≤ x7 ∧ Hid (shT.O wr w.heap.size tN ov (((t.qs.drop tn).take (k - tn)).filterMap askOf)) ∧ Hid (Keeps [] w wr) ∧ Hid (wr.heap[w.heap.size]? = some (.cells #[.int .i64 x0, .int .i64 x1, .int .i64 x2, .int .u64 x3, .int .i64 x4, .int .i64 0, .slice x6 x7 x8, .slice x9 x10 x11, .int .i64 tn, .slice x13 x14 x15, .bool x16, .slice x17 x18 x19] tR)) ∧ Hid (wr.heap[w.heap.size + 1]? = some (.cells #[.int .i64 0, .int .i64 0, .int .i64 0, .int .u64 0, .int .i64 0, .int .i64 0, .slice none 0 0, .slice none 0 0, .int .i64 0, .slice none 0 0, .bool false, .slice none 0 0] tR))) (fun _ i _ => x7 - (intOf i).toNat)
    case atStart => exact ⟨tn, rfl, by omega, by omega, by rw [Nat.sub_self]; exact hfr, hkA, hb3, hb2⟩
    case round =>
      obtain ⟨k, rfl, hk1, hk2, hOr, hkr, hbx, hbz⟩ := hrel
      obtain ⟨y0, y1, y2, y3, y4, y5, y6, y7, y8, y9, y10, y11, yf, yl⟩ := cells12 hbx.out
      by_cases hlt : k < x7
      · have hkq : k < t.qs.length := by rw [hx7.out]; exact hlt
        have hstep : ((t.qs.drop tn).take (k + 1 - tn)).filterMap askOf = ((t.qs.drop tn).take (k - tn)).filterMap askOf ++ (askOf t.qs[k]).toList := by
          have h1 := ask_step (t.qs.drop tn) (k - tn) (by simp; omega)
          rw [show k - tn + 1 = k + 1 - tn by omega] at h1
          rw [h1]
          congr 2
          simp [show tn + (k - tn) = k by omega]
        obtain ⟨⟨⟨p0, p1, p2⟩, pu⟩, hp⟩ : ∃ p, t.qs[k] = p := ⟨_, rfl⟩
        rw [hp] at hstep
        have hac := hans.out wr hkr.out k hkq
        rw [hp] at hac
        replace hac := Lib.hid hac
        cases pu with
        | some a =>
          have hstep2 : ((t.qs.drop tn).take (k + 1 - tn)).filterMap askOf = ((t.qs.drop tn).take (k - tn)).filterMap askOf := by rw [hstep]; simp [askOf]
          replace hstep2 := Lib.hid hstep2
          replace hp := Lib.hid hp
          clear hstep
          go_wp2_with fail
          refine hac.out.mono ?_
          rintro e w1 ⟨rfl, hka⟩
          have hO1 := hOr.out.keeps hka
          rw [← hstep2.out] at hO1
          have hk1w := hkr.out.trans hka
          have hbx1 := (hka.block _ (lt_of_blk hbx.out) (by simp)).trans hbx.out
          have hbz1 := (hka.block _ (lt_of_blk hbz.out) (by simp)).trans hbz.out
          replace hO1 := Lib.hid hO1
          replace hk1w := Lib.hid hk1w
          replace hbx1 := Lib.hid hbx1
          replace hbz1 := Lib.hid hbz1
          go_wp2
          go_roundw
          case rel => exact ⟨k + 1, rfl, by omega, by omega, hO1, hk1w, hbx1, hbz1⟩
          case measure => simp [intOf]; omega
        | none =>
          have hstep2 : ((t.qs.drop tn).take (k + 1 - tn)).filterMap askOf = ((t.qs.drop tn).take (k - tn)).filterMap askOf ++ [(p0, p2, p1)] := by rw [hstep]; simp [askOf]
          obtain ⟨L0, hL0⟩ : ∃ l, ((t.qs.drop tn).take (k - tn)).filterMap askOf = l := ⟨_, rfl⟩
          have hL0l : L0.length ≤ 100000 := by
            rw [← hL0]
            exact Nat.le_trans (List.length_filterMap_le _ _) (by simp; omega)
          rw [hL0] at hstep2 hOr
          obtain ⟨oa, oc, rfl⟩ := hOr.out.form
          obtain ⟨N0, hN0⟩ : ∃ n, L0.length = n := ⟨_, rfl⟩
          rw [hN0] at hOr hL0l ⊢
          obtain ⟨g, o, c', hv, he⟩ := hel.out k (by simp [Tr.op]; omega)
          have hpe : (t.op.map ndq)[k]'(by simp [Tr.op]; omega) = (p0, p2, p1) := by simp [Tr.op, hp, ndq]
          rw [hpe] at he
          rw [show (t.op.map ndq).length = x7 by simp [Tr.op]; exact hx7.out] at hv
          cases hv
          replace hstep2 := Lib.hid hstep2
          replace hp := Lib.hid hp
          replace hN0 := Lib.hid hN0
          clear hstep hpe
          go_wp2_with fail
          refine hac.out.mono ?_
          rintro e w1 ⟨rfl, hka⟩
          have hk1w := hkr.out.trans hka
          have hbx1 := (hka.block _ (lt_of_blk hbx.out) (by simp)).trans hbx.out
          obtain ⟨y0, y1, y2, y3, y4, y5, y6, y7, y8, y9, y10, y11, yf, yl⟩ := cells12 hbx1
          have hbz1 := (hka.block _ (lt_of_blk hbz.out) (by simp)).trans hbz.out
          have e0 := hk1w.val (he 0 _ rfl)
          have e1 := hk1w.val (he 1 _ rfl)
          have e2 := hk1w.val (he 2 _ rfl)
          simp only [shT, Nat.add_zero] at e0 e1 e2
          have hmade := Sh.R.made shT w1 [(p0, p2, p1)] #[.int .i64 p0, .int .u64 p2, .int .i64 p1] tN rfl (by simp [maxLen]) 1 rfl
          have hkM := (Keeps.refl [] w1).alloc (.cells #[.int .i64 p0, .int .u64 p2, .int .i64 p1] tN)
          have hOA := (hOr.out.keeps hka).keeps hkM
          have hkwM := hk1w.trans hkM
          have hsz := hkwM.size
          have hbxM := (hkM.block _ (lt_of_blk hbx1) (by simp)).trans hbx1
          have hbzM := (hkM.block _ (lt_of_blk hbz1) (by simp)).trans hbz1
          have hon : ∀ b, (Value.slice oa N0 oc).ownBlock = some b → b ≠ w.heap.size ∧ b ≠ w.heap.size + 1 := fun b hb => by
            obtain ⟨cs, hc⟩ := hOA.tag b hb
            refine ⟨fun e => ?_, fun e => ?_⟩
            · subst e; exact tag_ne hbxM hc (by decide) rfl
            · subst e; exact tag_ne hbzM hc (by decide) rfl
          replace hmade := Lib.hid hmade
          replace hOA := Lib.hid hOA
          replace hkwM := Lib.hid hkwM
          replace hbxM := Lib.hid hbxM
          replace hbzM := Lib.hid hbzM
          replace hbz1 := Lib.hid hbz1
          replace hbx1 := Lib.hid hbx1
          replace hon := Lib.hid hon
          clear he hkM hac
          go_wp2_with (at_builtin; (refine Sh.wpl_app shT w.heap.size infoN rfl Tryz.underlying85 (.slice oa N0 oc) (.slice (some ⟨w1.heap.size, 0, none⟩) 1 1) L0 [(p0, p2, p1)] rfl _ _ rfl rfl rfl hOA.out hmade.out (by rw [hN0.out]; simp; omega) hsz ?_; intro v5 w5 hO5 hG5; rw [← hstep2.out] at hO5; have hk5 := Sh.O.grew hkwM.out hOA.out hG5 (Nat.le_refl _); have hbx5 := (hG5.keepsO.block _ (lt_of_blk hbxM.out) (fun hm => (hon.out _ (by simpa using hm)).1 rfl)).trans hbxM.out; have hbz5 := (hG5.keepsO.block _ (lt_of_blk hbzM.out) (fun hm => (hon.out _ (by simpa using hm)).2 rfl)).trans hbzM.out; replace hO5 := Lib.hid hO5; replace hk5 := Lib.hid hk5; replace hbx5 := Lib.hid hbx5; replace hbz5 := Lib.hid hbz5; clear hG5))
          go_roundw
          case rel => exact ⟨k + 1, rfl, by omega, by omega, hO5, hk5, hbx5, hbz5⟩
          case measure => simp [intOf]; omega
      · have hkx : k = x7 := by omega
        subst hkx
        rw [show ((t.qs.drop tn).take (k - tn)) = t.qs.drop tn from List.take_of_length_le (by rw [List.length_drop, hx7.out]; omega)] at hOr
        obtain ⟨z0, z1, z2, z3, z4, z5, z6, z7, z8, z9, z10, z11, zf, zl⟩ := cells12 hbz.out
        have hks : Keeps [w.heap.size] wr (wr.setCell ⟨w.heap.size, 8, none⟩ (.int .i64 (k : Int))) := (Keeps.refl _ _).setCell (.inr (by simp)) _
        have hbzs := (hks.block _ (lt_of_blk hbz.out) (by simp)).trans hbz.out
        obtain ⟨s1, s2⟩ := st12 (x0 := .int .i64 x0) (x1 := .int .i64 x1) (x2 := .int .i64 x2) (x3 := .int .u64 x3) (x4 := .int .i64 x4) (x5 := .int .i64 0) (x6 := .slice x6 k x8) (x7 := .slice x9 x10 x11) (x8 := .int .i64 (k : Int)) (x9 := .slice x13 x14 x15) (x10 := .bool x16) (x11 := .slice x17 x18 x19) hbzs
        have hkf := (hkr.out.fresh hks (fun b hb => by simp at hb; subst hb; exact .inr (Nat.le_refl _))).fresh s2 (fun b hb => by simp at hb; subst hb; exact .inr (by omega))
        have hkO := (hks.mono (T := [w.heap.size, w.heap.size + 1]) (by simp)).trans (s2.mono (by simp))
        have hve := hOr.out.keepS hkO (fun b hb e => by
          obtain ⟨cs, hc⟩ := hOr.out.tag b e
          simp at hb
          rcases hb with rfl | rfl
          · exact tag_ne hbx.out hc (by decide) rfl
          · exact tag_ne hbz.out hc (by decide) rfl)
        have hRe := h.out.keeps hkf
        replace s1 := Lib.hid s1
        replace s2 := Lib.hid s2
        replace hkf := Lib.hid hkf
        replace hve := Lib.hid hve
        replace hRe := Lib.hid hRe
        clear hkO hks hbzs
        go_wp2
        refine bodyPost_ret (results_rf rfl _ _ _ _ _ _ _ _ _ _ _ _ _ _ _ _ _ rfl s1.out) ?_ ?_
        · rfl
        · have hE := hRe.out
          exact ⟨⟨x0, x1, x2, x3, x4, 0, (x6, k, x8), (x9, x10, x11), k, (x13, x14, x15), x16, (x17, x18, x19)⟩, _, rfl, ⟨hE.im, hE.is, hE.s0, hE.s1, hE.s2, hE.st, rfl, hE.rf, hE.op, hE.an, hE.ag, hE.hi⟩, hve.out, hkf.out, fun b hb => .inl hb⟩
end Go.Proofs.YtpobepninifenaaGreat

namespace Go.Proofs.YtpobepninifenaaGreat
open Go Go.RowKit

theorem ownsRow_set {w : World} {base e size n : Nat} {ys : List Value} {g cap : Nat} (h : w.ownsRow base e size (.slice (some ⟨g, 0, none⟩) n cap) n ys) (i : Nat) (c : Value) :
    (w.setCell ⟨g, i, none⟩ c).ownsRow base e size (.slice (some ⟨g, 0, none⟩) n cap) n (ys.set i c) := by
  obtain ⟨hl, h2⟩ := h
  rcases h2 with ⟨e, _⟩ | ⟨g', cap', cur, e, hb, hg, hle, hm, hsz, ht⟩
  · cases e
  · cases e
    refine ⟨by simpa using hl, .inr ⟨g, cap, cur.setIfInBounds i c, rfl, hb, setCs hg i c, hle, hm, by simpa using hsz, ?_⟩⟩
    rw [Array.toList_setIfInBounds, List.take_set, ht]
theorem set8_list {A C : List Value} {x0 x1 x2 x3 x4 x5 x6 x7 y0 y1 y2 y3 y4 y5 y6 y7 : Value} {m : Nat} (hm : A.length = m) :
    ((((((((A ++ ([x0, x1, x2, x3, x4, x5, x6, x7] ++ C)).set m y0).set (m + 1) y1).set (m + 2) y2).set (m + 3) y3).set (m + 4) y4).set (m + 5) y5).set (m + 6) y6).set (m + 7) y7 = A ++ ([y0, y1, y2, y3, y4, y5, y6, y7] ++ C) := by
  subst hm
  repeat rw [List.set_append_right (by omega)]
  simp
theorem cs_split (L : List AnV) (k : Nat) (hk : k < L.length) (y : AnV) : shA.cs L = shA.cs (L.take k) ++ (shA.cf L[k] ++ shA.cs (L.drop (k + 1))) ∧ shA.cs (L.set k y) = shA.cs (L.take k) ++ (shA.cf y ++ shA.cs (L.drop (k + 1))) := by
  refine ⟨?_, ?_⟩
  · have h : L = L.take k ++ (L[k] :: L.drop (k + 1)) := by rw [List.getElem_cons_drop, List.take_append_drop]
    rw [congrArg shA.cs h, Sh.cs_append]
    rfl
  · rw [List.set_eq_take_append_cons_drop, if_pos hk, Sh.cs_append]
    rfl
theorem O_set8 {w : World} {B e n c g : Nat} {L : List AnV} (h : shA.O w B e (.slice (some ⟨g, 0, none⟩) n c) L) (hn : L.length = n) (k : Nat) (hk : k < L.length) (y : AnV) :
    shA.O ((((((((w.setCell ⟨g, k * 8, none⟩ (.int .i64 y.m)).setCell ⟨g, k * 8 + 1, none⟩ (.int .i64 y.ow)).setCell ⟨g, k * 8 + 2, none⟩ (.int .u64 y.n)).setCell ⟨g, k * 8 + 3, none⟩ (.int .i64 y.ep)).setCell ⟨g, k * 8 + 4, none⟩ (.bool y.kn)).setCell ⟨g, k * 8 + 5, none⟩ (.bool y.rt)).setCell ⟨g, k * 8 + 6, none⟩ (.int .i64 y.lu)).setCell ⟨g, k * 8 + 7, none⟩ y.v) B e (.slice (some ⟨g, 0, none⟩) n c) (L.set k y) := by
  unfold Sh.O at h ⊢
  rw [hn] at h
  rw [List.length_set, hn]
  have h8 := ownsRow_set (ownsRow_set (ownsRow_set (ownsRow_set (ownsRow_set (ownsRow_set (ownsRow_set (ownsRow_set h (k * 8) (.int .i64 y.m)) (k * 8 + 1) (.int .i64 y.ow)) (k * 8 + 2) (.int .u64 y.n)) (k * 8 + 3) (.int .i64 y.ep)) (k * 8 + 4) (.bool y.kn)) (k * 8 + 5) (.bool y.rt)) (k * 8 + 6) (.int .i64 y.lu)) (k * 8 + 7) y.v
  obtain ⟨e1, e2⟩ := cs_split L k hk y
  have hA : (shA.cs (L.take k)).length = k * 8 := by
    rw [Sh.cs_len, List.length_take, Nat.min_eq_left (by omega)]
    rfl
  rw [e1, show shA.cf L[k] = [.int .i64 L[k].m, .int .i64 L[k].ow, .int .u64 L[k].n, .int .i64 L[k].ep, .bool L[k].kn, .bool L[k].rt, .int .i64 L[k].lu, L[k].v] from rfl, set8_list hA] at h8
  rw [e2]
  exact h8
theorem keeps8 (w : World) (g m : Nat) (x0 x1 x2 x3 x4 x5 x6 x7 : Value) : Keeps [g] w ((((((((w.setCell ⟨g, m, none⟩ x0).setCell ⟨g, m + 1, none⟩ x1).setCell ⟨g, m + 2, none⟩ x2).setCell ⟨g, m + 3, none⟩ x3).setCell ⟨g, m + 4, none⟩ x4).setCell ⟨g, m + 5, none⟩ x5).setCell ⟨g, m + 6, none⟩ x6).setCell ⟨g, m + 7, none⟩ x7) := by
  refine ((((((((Keeps.refl _ w).setCell ?_ _).setCell ?_ _).setCell ?_ _).setCell ?_ _).setCell ?_ _).setCell ?_ _).setCell ?_ _).setCell ?_ _ <;> exact .inr (by simp)
end Go.Proofs.YtpobepninifenaaGreat

namespace Go.Proofs.YtpobepninifenaaGreat
open Go.RowKit

theorem RA.set {w : World} {X : List AnV} {qs : Qs} {k : Nat} {y : AnV} {q : Qn} {a : Ans} (h : RA w X qs) (hy : InA w y a) : RA w (X.set k y) (qs.set k (q, some a)) := by
  obtain ⟨hl, hh⟩ := h
  refine ⟨by simp [hl], fun j u p hu hp => ?_⟩
  rw [List.getElem?_set] at hu hp
  by_cases hj : k = j
  · rw [if_pos hj] at hu hp
    split at hu
    · split at hp
      · cases hu; cases hp; exact hy
      · cases hp
    · cases hu
  · rw [if_neg hj] at hu hp
    exact hh j u p hu hp
theorem RA.open {w : World} {X : List AnV} {qs : Qs} {q : Qn} (h : RA w X qs) : RA w (X ++ [AnV.zero]) (qs ++ [(q, none)]) := by
  obtain ⟨hl, hh⟩ := h
  refine ⟨by simp [hl], fun j u p hu hp => ?_⟩
  by_cases hj : j < X.length
  · rw [List.getElem?_append_left hj] at hu
    rw [List.getElem?_append_left (by omega)] at hp
    exact hh j u p hu hp
  · rw [List.getElem?_append_right (by omega)] at hu hp
    rw [← hl] at hp
    obtain ⟨i, hi⟩ : ∃ i, j - X.length = i := ⟨_, rfl⟩
    rw [hi] at hu hp
    cases i with
    | zero => simp at hu hp; subst hu hp; rfl
    | succ i => simp at hu
theorem RA.all {w w' : World} {X : List AnV} {qs : Qs} (h : RA w X qs) (hk : ∀ (x : AnV) (b : Ans), InA w x b → InA w' x b) : RA w' X qs := by
  refine ⟨h.1, fun j u p hu hp => ?_⟩
  have h1 := h.2 j u p hu hp
  obtain ⟨q, v⟩ := p
  cases v with
  | some b => exact hk u b h1
  | none => exact h1
def Tr.answerR (t : Tr) (a : Ans) : Tr × Int :=
  if t.state ≠ 0 then (t, 9) else if isOpen a.q t.qs = false then (t, 6) else
  if a.kn = false then ({ t.take a with state := 4 }, 0) else if a.rt = true then ({ t.take a with state := 3 }, 0) else
  if t.rec'.any (fun p => Ans.odd a.m a.ep p.2) then ({ t.take a with state := 4 }, 0) else (((t.take a).put a).close, 0)
def oddAt (a : Ans) (p : Qn × Option Ans) : Bool := match p.2 with | some b => Ans.odd a.m a.ep b | none => false
theorem rec_odd (a : Ans) : ∀ qs : Qs, (recOf qs).any (fun p => Ans.odd a.m a.ep p.2) = qs.any (oddAt a)
  | [] => rfl
  | (x, none) :: r => by rw [recOf_none, List.any_cons, rec_odd a r]; rfl
  | (x, some b) :: r => by rw [recOf_some, List.any_cons, List.any_cons, rec_odd a r]; rfl
theorem odd_none {a : Ans} {qs : Qs} (h : ∀ j (hj : j < qs.length), oddAt a qs[j] = false) : (recOf qs).any (fun p => Ans.odd a.m a.ep p.2) = false := by
  rw [rec_odd, List.any_eq_false]
  intro p hp
  obtain ⟨j, hj, rfl⟩ := List.getElem_of_mem hp
  rw [h j hj]
  decide
theorem odd_some {a : Ans} {qs : Qs} {j : Nat} (hj : j < qs.length) (h : oddAt a qs[j] = true) : (recOf qs).any (fun p => Ans.odd a.m a.ep p.2) = true := by
  rw [rec_odd, List.any_eq_true]
  exact ⟨_, List.getElem_mem hj, h⟩
theorem setQ_set {q : Qn} {a : Ans} : ∀ {qs : Qs} (_ : (qs.map (·.1)).Nodup) (k : Nat) (hk : k < qs.length), qs[k].1 = q → setQ q a qs = qs.set k (q, some a)
  | [], _, _, h, _ => by simp at h
  | (x, u) :: r, hn, 0, _, e => by
    obtain ⟨h1, h2⟩ := List.nodup_cons.1 hn
    simp only [List.getElem_cons_zero] at e
    subst e
    rw [setQ_cons, if_pos rfl, setQ_same h1]
    rfl
  | (x, u) :: r, hn, k + 1, hk, e => by
    obtain ⟨h1, h2⟩ := List.nodup_cons.1 hn
    have hk' : k < r.length := by simpa using hk
    simp only [List.getElem_cons_succ] at e
    have hx : x ≠ q := fun e2 => h1 (by rw [e2, ← e]; exact List.mem_map.2 ⟨_, List.getElem_mem hk', rfl⟩)
    rw [setQ_cons, if_neg hx, setQ_set h2 k hk' e]
    rfl
theorem isOpen_at {t : Tr} (h : t.Inv) {q : Qn} {k : Nat} (hk : k < t.qs.length) (e : t.qs[k].1 = q) : isOpen q t.qs = !t.qs[k].2.isSome := by
  have hm := List.getElem_mem hk
  obtain ⟨⟨q', u⟩, hp⟩ : ∃ p, t.qs[k] = p := ⟨_, rfl⟩
  rw [hp] at hm e ⊢
  simp only at e
  subst e
  cases u with
  | none => exact isOpen_mem.2 hm
  | some b =>
    unfold isOpen
    simp only [Option.isSome_some, Bool.not_true, decide_eq_false_iff_not]
    intro h2
    have := nd_val h.nd hm h2
    cases this
theorem isOpen_not {t : Tr} {q : Qn} (h : q ∉ t.op) : isOpen q t.qs = false := by
  unfold isOpen
  simp only [decide_eq_false_iff_not]
  exact fun h2 => h (List.mem_map.2 ⟨_, h2, rfl⟩)
theorem ans_end {w W wE : World} {X B N : Nat} {v8 : Value} {XH : List AnV} {va : Option Addr} {vc : Nat} {a : Ans} {H : List Ans} {u0 u2 : Array Value} (hks : Keeps [X, X + 1 + 1] W wE) (hkf : Keeps [] w wE) (hl : LA w XH H) (hOI : shT.O W B tI (.slice va N vc) a.ins)
    (hO8 : shA.O W B tA v8 (XH ++ [⟨a.m, a.ow, a.n, a.ep, a.kn, a.rt, a.lu, va, N, vc⟩])) (h0 : W.heap[X]? = some (.cells u0 tR (0, 0))) (h2 : W.heap[X + 1 + 1]? = some (.cells u2 tR (0, 0))) : ∃ Z, shA.R wE v8 Z ∧ LA wE Z (H ++ [a]) := by
  have k1 : ∀ (e : TypeId) (v : Value), e ≠ tR → (∀ b, v.ownBlock = some b → ∃ (cs : Array Value), W.heap[b]? = some (Obj.cells cs e (0, 0))) → ∀ b ∈ [X, X + 1 + 1], v.ownBlock ≠ some b := fun e v he ht b hb hv => by
    obtain ⟨cs, hc⟩ := ht b hv
    simp at hb
    rcases hb with rfl | rfl
    · exact tag_ne h0 hc (Ne.symm he) rfl
    · exact tag_ne h2 hc (Ne.symm he) rfl
  have hI := hOI.keepS hks (k1 tI _ (by decide) hOI.tag)
  have h8 := (hO8.keepS hks (k1 tA _ (by decide) hO8.tag)).r
  exact ⟨_, h8, (hl.ki hkf.ki0).snoc ⟨rfl, rfl, rfl, rfl, rfl, rfl, rfl, ⟨_, hI⟩⟩⟩
theorem O_some {α : Type} {s : Sh α} {w : World} {B e : Nat} {v : Value} {L : List α} (h : s.O w B e v L) (hl : 0 < L.length) : ∃ g cap cur, v = .slice (some ⟨g, 0, none⟩) L.length cap ∧ B ≤ g ∧ w.heap[g]? = some (.cells cur e (0, 0)) ∧ L.length ≤ cap ∧ cur.size = cap * s.sz := by
  rcases h.2 with ⟨_, e⟩ | ⟨g, cap, cur, rfl, h1, h2, h3, _, h5, _⟩
  · omega
  · exact ⟨g, cap, cur, rfl, h1, h2, h3, h5⟩
theorem cells8f {w : World} {b : Nat} {x0 x1 x2 x3 x4 x5 x6 x7 : Value} {t : TypeId} (h : w.heap[b]? = some (.cells #[x0, x1, x2, x3, x4, x5, x6, x7] t (0, 0))) :
    w.cell? ⟨b, 0, none⟩ = some x0 ∧ w.cell? ⟨b, 1, none⟩ = some x1 ∧ w.cell? ⟨b, 2, none⟩ = some x2 ∧ w.cell? ⟨b, 3, none⟩ = some x3 ∧ w.cell? ⟨b, 4, none⟩ = some x4 ∧ w.cell? ⟨b, 5, none⟩ = some x5 ∧ w.cell? ⟨b, 6, none⟩ = some x6 ∧ w.cell? ⟨b, 7, none⟩ = some x7 ∧ (∀ o, w.frozen? ⟨b, o, none⟩ = false) ∧ b < w.heap.size := by
  refine ⟨?_, ?_, ?_, ?_, ?_, ?_, ?_, ?_, fun o => ?_, lt_of_blk h⟩ <;> simp [World.cell?, World.frozen?, h]
/-- While a trace gathers, its history are the recorded answers. -/
def Tr.HistOk (t : Tr) : Prop := t.state = 0 → ∀ b, b ∈ t.hist ↔ ∃ p ∈ t.rec', p.2 = b
theorem Tr.answerR_eq {t : Tr} {a : Ans} (h : t.HistOk) : t.answerR a = t.answer a := by
  unfold Tr.answerR Tr.answer
  by_cases hs : t.state = 0
  · have he : (t.rec'.any fun p => Ans.odd a.m a.ep p.2) = (t.hist ++ [a]).any (Ans.odd a.m a.ep) := by
      rw [Bool.eq_iff_iff, List.any_eq_true, List.any_eq_true]
      constructor
      · rintro ⟨p, hp, ho⟩
        exact ⟨p.2, List.mem_append_left _ ((h hs p.2).2 ⟨p, hp, rfl⟩), ho⟩
      · rintro ⟨b, hb, ho⟩
        rcases List.mem_append.1 hb with hb | hb
        · obtain ⟨p, hp, rfl⟩ := (h hs b).1 hb
          exact ⟨p, hp, ho⟩
        · rw [List.mem_singleton.1 hb] at ho
          simp [Ans.odd] at ho
    rw [he]
  · rw [if_pos hs, if_pos hs]
end Go.Proofs.YtpobepninifenaaGreat
