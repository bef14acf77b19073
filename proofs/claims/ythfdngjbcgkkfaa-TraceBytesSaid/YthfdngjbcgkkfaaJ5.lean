/- Texts that the laws lean on, in the order in which they build. Whether a list of answers holds one of a machine with another epoch. What writing a trace's blocks leaves. Trace.Answer. Trace.Queries. An iteration over a map with keys of any kind: what keeps it. Trace.answers: the recorded answers in their order. Claims in memory, as they are gathered. -/
import Derived.Test.YthfdngjbcgkkfaaJ4
set_option linter.unusedVariables false
set_option linter.unusedSimpArgs false
namespace Go.Proofs.Ythfdngjbcgkkfaa
open Go.RowKit

def AnV.odd (m ep : Int) (x : AnV) : Bool := x.m == m && x.ep != ep
set_option maxRecDepth 100000 in
set_option maxHeartbeats 2000000 in
theorem odd_c (w : World) (x : AnV) (bx : Nat) (m ep : Int) (h0 : w.cell? ⟨bx, 0, none⟩ = some (.int .i64 m)) (h3 : w.cell? ⟨bx, 3, none⟩ = some (.int .i64 ep)) :
    Calls Try.prog 70 #[aV x, .pointer (some ⟨bx, 0, none⟩)] w fun e w' => e = .returned (.bool (x.odd m ep)) ∧ Keeps [] w w' := by
  have hlt := lt_of_cell h0
  obtain ⟨x0, x1, x2, x3, x4, x5, x6, x7, x8, x9⟩ := x
  simp only [aV, AnV.v, AnV.odd]
  have hkA : Keeps [] w (w.alloc (.cells #[.int .i64 x0, .int .i64 x1, .int .u64 x2, .int .i64 x3, .bool x4, .bool x5, .int .i64 x6, .slice x7 x8 x9] tA)) := (Keeps.refl _ _).alloc _
  by_cases e1 : x0 = m
  · subst e1
    have b1 : (x0 == x0) = true := by simp
    by_cases e2 : x3 = ep
    · subst e2
      have b2 : (x3 != x3) = false := by simp
      go_enter Try.func70, Try.ntmps70
      go_wp2
      go_ret
      exact ⟨by rw [b1, b2]; rfl, hkA⟩
    · have b2 : (x3 != ep) = true := by simpa using e2
      go_enter Try.func70, Try.ntmps70
      go_wp2
      go_ret
      exact ⟨by rw [b1, b2]; rfl, hkA⟩
  · have b1 : (x0 == m) = false := by simpa using e1
    go_enter Try.func70, Try.ntmps70
    go_wp2
    go_ret
    exact ⟨by rw [b1]; rfl, hkA⟩
set_option maxRecDepth 100000 in
set_option maxHeartbeats 2000000 in
theorem indexA_c (w : World) (v : Value) (X : List AnV) (bx : Nat) (m ep : Int) (h : shA.R w v X) (h0 : w.cell? ⟨bx, 0, none⟩ = some (.int .i64 m)) (h3 : w.cell? ⟨bx, 3, none⟩ = some (.int .i64 ep)) :
    Calls Try.prog 90 #[v, .func (.func 70) #[] #[.pointer (some ⟨bx, 0, none⟩)]] w fun e w' => ∃ i : Int, e = .returned (.int .i64 i) ∧ (X.any (AnV.odd m ep) = true → 0 ≤ i) ∧ (X.any (AnV.odd m ep) = false → i = -1) ∧ Keeps [] w w' := by
  obtain ⟨a, c, rfl, hlc, hcm, _⟩ := h.form
  have hel := fun k hk => h.elem (k := k) hk
  obtain ⟨M, hM⟩ : ∃ N, X.length = N := ⟨_, rfl⟩
  rw [hM] at hlc ⊢
  have hMm : M ≤ 9223372036854775807 := by unfold maxLen at hcm; omega
  replace hel := Lib.hid hel
  replace hM := Lib.hid hM
  clear h
  go_enter Try.func90, Try.ntmps90
  go_wp2
  go_loopw [8, 5] (fun i _ wr => ∃ k : Nat, i = .int .i64 k ∧ k ≤ M ∧ Hid (∀ j (hj : j < X.length), j < k → X[j].odd m ep = false) ∧ Keeps [] w wr) (fun i _ _ => M - (intOf i).toNat)
  case atStart => exact ⟨0, rfl, by omega, fun _ _ h => by omega, Keeps.refl _ _⟩
  case round =>
    obtain ⟨k, rfl, hk, hno, hkw⟩ := hrel
    by_cases hlt : k < M
    · obtain ⟨g, o, c', hv, he⟩ := hel.out k (by rw [hM.out]; exact hlt)
      cases hv
      obtain ⟨x, hx⟩ : ∃ x, X[k]'(by rw [hM.out]; exact hlt) = x := ⟨_, rfl⟩
      rw [hx] at he
      have hoc := odd_c wr x bx m ep (hkw.val h0) (hkw.val h3)
      obtain ⟨x0, x1, x2, x3, x4, x5, x6, x7, x8, x9⟩ := x
      have e0 := hkw.val (he 0 _ rfl)
      have e1 := hkw.val (he 1 _ rfl)
      have e2 := hkw.val (he 2 _ rfl)
      have e3 := hkw.val (he 3 _ rfl)
      have e4 := hkw.val (he 4 _ rfl)
      have e5 := hkw.val (he 5 _ rfl)
      have e6 := hkw.val (he 6 _ rfl)
      have e7 := hkw.val (he 7 _ rfl)
      simp only [shA, AnV.v, Nat.add_zero] at e0 e1 e2 e3 e4 e5 e6 e7
      simp only [aV, AnV.v] at hoc
      obtain ⟨od, hod⟩ : ∃ od, AnV.odd m ep ⟨x0, x1, x2, x3, x4, x5, x6, x7, x8, x9⟩ = od := ⟨_, rfl⟩
      rw [hod] at hoc
      replace hx := Lib.hid hx
      replace hod := Lib.hid hod
      replace hkw := Lib.hid hkw
      replace hoc := Lib.hid hoc
      clear he
      go_wp2_with fail
      refine hoc.out.mono ?_
      rintro e w1 ⟨rfl, hk1⟩
      cases od with
      | true =>
        go_wp2
        go_ret
        exact ⟨k, rfl, fun _ => by omega, fun h => by
          rw [List.any_eq_false] at h
          have := h _ (hx.out ▸ List.getElem_mem _)
          exact absurd hod.out this, hkw.out.trans hk1⟩
      | false =>
        have hk2 := hkw.out.trans hk1
        go_wp2
        go_roundw
        case rel => exact ⟨k + 1, rfl, by omega, fun j hj hjk => by
            by_cases e : j = k
            · subst e; rw [hx.out]; exact hod.out
            · exact hno.out j hj (by omega), hk2⟩
        case measure => simp [intOf]; omega
    · go_wp2
      go_ret
      exact ⟨-1, rfl, (fun h => by
        rw [List.any_eq_true] at h
        obtain ⟨y, hy, ho⟩ := h
        obtain ⟨j, hj, rfl⟩ := List.getElem_of_mem hy
        rw [hno.out j hj (by rw [hM.out] at hj; omega)] at ho
        cases ho), fun _ => rfl, hkw⟩
set_option maxRecDepth 100000 in
set_option maxHeartbeats 1000000 in
theorem anyA_c (w : World) (v : Value) (X : List AnV) (bx : Nat) (m ep : Int) (h : shA.R w v X) (h0 : w.cell? ⟨bx, 0, none⟩ = some (.int .i64 m)) (h3 : w.cell? ⟨bx, 3, none⟩ = some (.int .i64 ep)) :
    Calls Try.prog 71 #[v, .func (.func 70) #[] #[.pointer (some ⟨bx, 0, none⟩)]] w fun e w' => e = .returned (.bool (X.any (AnV.odd m ep))) ∧ Keeps [] w w' := by
  have hI := indexA_c w v X bx m ep h h0 h3
  obtain ⟨b, hb⟩ : ∃ b, X.any (AnV.odd m ep) = b := ⟨_, rfl⟩
  rw [hb] at hI ⊢
  obtain ⟨a, c, rfl, _, _, _⟩ := h.form
  replace hI := Lib.hid hI
  replace hb := Lib.hid hb
  clear h h0 h3
  go_enter Try.func71, Try.ntmps71
  go_wp2_with fail
  refine hI.out.mono ?_
  rintro e w1 ⟨i, rfl, h1, h2, hk1⟩
  cases b with
  | true =>
    have h0 := h1 rfl
    replace h2 := Lib.hid h2
    go_wp2
    go_ret
    exact ⟨rfl, hk1⟩
  | false =>
    have h0 := h2 rfl
    subst h0
    replace h1 := Lib.hid h1
    go_wp2
    go_ret
    exact ⟨rfl, hk1⟩
end Go.Proofs.Ythfdngjbcgkkfaa

namespace Go.Proofs.Ythfdngjbcgkkfaa
open Go.RowKit

theorem MapS.M.at' {P : Program} {kt : TypeId} {κ : Type} [DecidableEq κ] {α : Type} {K : MapS.KT P kt κ} {vf : α → Value} {w w' : World} {b : Nat} {L : List (κ × α)} (h : MapS.M K vf w b L) (hb : w'.heap[b]? = w.heap[b]?) : MapS.M K vf w' b L := by
  obtain ⟨⟨D, ⟨es, clock, h1, F, hs, hD⟩, h2, h3⟩, ha, hw⟩ := h
  exact ⟨⟨D, ⟨es, clock, hb.trans h1, F, hs, hD⟩, h2, h3⟩, ha, hw⟩
theorem Keeps.setT {w : World} {bt o : Nat} {cs : Array Value} (h : w.heap[bt]? = some (.cells cs tT (0, 0))) (v : Value) : Keeps [bt] w (w.setCell ⟨bt, o, none⟩ v) ∧ KI w (w.setCell ⟨bt, o, none⟩ v) := by
  have hk : Keeps [bt] w (w.setCell ⟨bt, o, none⟩ v) := (Keeps.refl _ _).setCell (.inr (by simp)) _
  refine ⟨hk, hk.ki (fun b hb cs f e => ?_)⟩
  simp at hb; subst hb
  rw [h] at e; cases e
namespace TrM
variable {w w' : World} {B bt bm : Nat} {vo vh vg : Value} {t : Tr}
theorem ne_bt (h : TrM w B bt bm vo vh vg t) : bm ≠ bt ∧ vo.ownBlock ≠ some bt ∧ vh.ownBlock ≠ some bt ∧ vg.ownBlock ≠ some bt := by
  obtain ⟨R, hR, _⟩ := h.mp
  obtain ⟨X, hX, _⟩ := h.hi
  refine ⟨fun e => ?_, fun e => ?_, fun e => ?_, fun e => ?_⟩
  · obtain ⟨es, c, hm⟩ := hR.isMap
    rw [e, h.blk] at hm; cases hm
  · obtain ⟨cs, hc⟩ := h.op.tag bt e
    exact tag_ne h.blk hc (by decide) rfl
  · obtain ⟨cs, hc⟩ := hX.tag bt e
    exact tag_ne h.blk hc (by decide) rfl
  · obtain ⟨cs, hc⟩ := h.ag.tag bt e
    exact tag_ne h.blk hc (by decide) rfl
/-- A cell of the trace itself is stored. -/
theorem store (h : TrM w B bt bm vo vh vg t) (o : Nat) (v : Value) : (w.setCell ⟨bt, o, none⟩ v).heap[bt]? = some (.cells ((#[.int .i64 t.im, .int .i64 t.is, .int .i64 t.st.1, .int .u64 t.st.2.1, .int .i64 t.st.2.2, vo, .int .i64 t.told, .map (some bm), vh, .int .i64 t.state, vg, .bool t.rf] : Array Value).setIfInBounds o v) tT (0, 0)) ∧
    shQ.O (w.setCell ⟨bt, o, none⟩ v) B tQ vo t.op ∧ (∃ X, shA.O (w.setCell ⟨bt, o, none⟩ v) B tA vh X ∧ LA (w.setCell ⟨bt, o, none⟩ v) X t.hist) ∧ shZ.O (w.setCell ⟨bt, o, none⟩ v) B 3 vg t.ag ∧
    (∃ R, MapS.M ktQ aV (w.setCell ⟨bt, o, none⟩ v) bm R ∧ LR (w.setCell ⟨bt, o, none⟩ v) R t.rec') ∧ Keeps [bt] w (w.setCell ⟨bt, o, none⟩ v) ∧ KI w (w.setCell ⟨bt, o, none⟩ v) := by
  obtain ⟨hk, hi⟩ := Keeps.setT (o := o) h.blk v
  obtain ⟨n1, n2, n3, n4⟩ := h.ne_bt
  obtain ⟨X, hX, hXL⟩ := h.hi
  obtain ⟨R, hR, hRL⟩ := h.mp
  exact ⟨setCs h.blk o v, h.op.keepS hk (by simpa using n2), ⟨X, hX.keepS hk (by simpa using n3), hXL.ki hi⟩, h.ag.keepS hk (by simpa using n4), ⟨R, hR.kept ktQ hk (by simpa using n1), hRL.ki hi⟩, hk, hi⟩
theorem setState (h : TrM w B bt bm vo vh vg t) (s : Int) : TrM (w.setCell ⟨bt, 9, none⟩ (.int .i64 s)) B bt bm vo vh vg { t with state := s } := by
  obtain ⟨h1, h2, h3, h4, h5, _⟩ := h.store 9 (.int .i64 s)
  exact ⟨by simpa using h1, h2, h3, h4, h5, h.inv.state s, h.bB⟩
theorem setTold (h : TrM w B bt bm vo vh vg t) (s : Int) : TrM (w.setCell ⟨bt, 6, none⟩ (.int .i64 s)) B bt bm vo vh vg { t with told := s } := by
  obtain ⟨h1, h2, h3, h4, h5, _⟩ := h.store 6 (.int .i64 s)
  exact ⟨by simpa using h1, h2, h3, h4, h5, ⟨h.inv.ok, h.inv.nd, h.inv.rq, h.inv.rk, h.inv.hi, h.inv.ro⟩, h.bB⟩
/-- The history has grown. -/
theorem setHist (h : TrM w B bt bm vo vh vg t) {vh' : Value} {X : List AnV} {a : Ans} (hG : Grw w w' vh vh') (hO : shA.O w' B tA vh' X) (hL : LA w' X (t.hist ++ [a])) (ha : a.Ok) :
    TrM (w'.setCell ⟨bt, 8, none⟩ vh') B bt bm vo vh' vg (t.take a) ∧ Keeps [bt] w' (w'.setCell ⟨bt, 8, none⟩ vh') ∧ KI w w' ∧ KI w' (w'.setCell ⟨bt, 8, none⟩ vh') := by
  obtain ⟨n1, n2, n3, n4⟩ := h.ne_bt
  obtain ⟨X0, hX0, hX0L⟩ := h.hi
  obtain ⟨R, hR, hRL⟩ := h.mp
  have hk := hG.keepsO
  have hi : KI w w' := hk.ki (fun b hb cs f e => by
    obtain ⟨cs', hc⟩ := hX0.tag b (by simpa using hb)
    exact tag_ne hc e (by decide) rfl)
  have hne : ∀ (e : TypeId) (b : Nat) (cs : Array Value), w.heap[b]? = some (Obj.cells cs e (0, 0)) → tA ≠ e → b ∉ vh.ownBlock.toList := fun e b cs hb hn hm => by
    obtain ⟨cs', hc⟩ := hX0.tag b (by simpa using hm)
    exact tag_ne hc hb hn rfl
  have hblk : w'.heap[bt]? = _ := (hk.block bt h.lt.1 (hne _ _ _ h.blk (by decide))).trans h.blk
  have hop : shQ.O w' B tQ vo t.op := h.op.keepS hk (fun b hb e => by obtain ⟨cs, hc⟩ := h.op.tag b e; exact hne _ _ _ hc (by decide) hb)
  have hag : shZ.O w' B 3 vg t.ag := h.ag.keepS hk (fun b hb e => by obtain ⟨cs, hc⟩ := h.ag.tag b e; exact hne _ _ _ hc (by decide) hb)
  have hR' : MapS.M ktQ aV w' bm R := hR.kept ktQ hk (fun hm => by
    obtain ⟨cs', hc⟩ := hX0.tag bm (by simpa using hm)
    obtain ⟨es, c, hmm⟩ := hR.isMap
    rw [hc] at hmm; cases hmm)
  have hM : TrM w' B bt bm vo vh' vg { t with hist := t.hist ++ [a] } ∨ True := .inr trivial
  obtain ⟨hk2, hi2⟩ := Keeps.setT (o := 8) hblk vh'
  have hnv : vh'.ownBlock ≠ some bt := fun e => by
    obtain ⟨cs, hc⟩ := hO.tag bt e
    exact tag_ne hblk hc (by decide) rfl
  refine ⟨⟨?_, hop.keepS hk2 (by simpa using n2), ⟨X, hO.keepS hk2 (by simpa using hnv), hL.ki hi2⟩, hag.keepS hk2 (by simpa using n4), ⟨R, hR'.kept ktQ hk2 (by simpa using n1), (hRL.ki hi).ki hi2⟩, h.inv.take ha, h.bB⟩, hk2, hi, hi2⟩
  have := setCs hblk 8 vh'
  simpa [Tr.take] using this
/-- The map of the answers has a further one. -/
theorem setRec (h : TrM w B bt bm vo vh vg t) {a : Ans} {x : AnV} {R : List (Qn × AnV)} (hR : MapS.M ktQ aV w bm R) (hRL : LR w R t.rec') (ho : isOpen a.q t.qs = true) (hk : Keeps [bm] w w') (hM : MapS.M ktQ aV w' bm (R ++ [(a.q, x)])) (hx : InA w x a) (ha : a.Ok) (hkn : a.kn = true) :
    TrM w' B bt bm vo vh vg { t with qs := setQ a.q a t.qs } ∧ KI w w' := by
  have hm := isOpen_mem.1 ho
  have hq : a.q ∈ t.qs.map (·.1) := List.mem_map.2 ⟨_, hm, rfl⟩
  have hi : KI w w' := hk.ki (fun b hb cs f e => by
    simp at hb; subst hb
    obtain ⟨es, c, hmm⟩ := hR.isMap
    rw [hmm] at e; cases e)
  obtain ⟨X0, hX0, hX0L⟩ := h.hi
  have hne : ∀ (b : Nat) (cs : Array Value) (e : TypeId), w.heap[b]? = some (Obj.cells cs e (0, 0)) → b ≠ bm := fun b cs e hb h2 => by
    subst h2
    obtain ⟨es, c, hmm⟩ := hR.isMap
    rw [hmm] at hb; cases hb
  have inv2 : Tr.Inv { t with qs := setQ a.q a t.qs } := by
    have h2 := Tr.Inv.put (t := t) (a := { a with ins := [] }) h.inv ⟨ha.q, ha.ep, ha.lu, by simp, by simp⟩ hkn ho
    have hrk : ∀ p ∈ recOf (setQ a.q a t.qs), (p.1 = a.q ∧ p.2 = a) ∨ p ∈ t.rec' := fun p hp => by
      obtain ⟨k, b⟩ := p
      rcases (setQ_mem hq k (some b)).1 (recOf_keys.1 hp) with ⟨h1, h2⟩ | ⟨_, h2⟩
      · exact .inl ⟨h1, by simpa using h2⟩
      · exact .inr (recOf_keys.2 h2)
    refine ⟨?_, ?_, fun p hp => ?_, fun p hp => ?_, h.inv.hi, fun p hp => ?_⟩
    · simp only [Tr.op]; rw [setQ_keys]; exact h.inv.ok
    · simp only [Tr.op]; rw [setQ_keys]; exact h.inv.nd
    · rcases hrk p hp with ⟨h1, h2⟩ | h1
      · rw [h1, h2]
      · exact h.inv.rq p h1
    · rcases hrk p hp with ⟨h1, h2⟩ | h1
      · rw [h2]; exact hkn
      · exact h.inv.rk p h1
    · rcases hrk p hp with ⟨h1, h2⟩ | h1
      · rw [h2]; exact ha
      · exact h.inv.ro p h1
  refine ⟨⟨(hk.block bt h.lt.1 (by simpa using hne _ _ _ h.blk)).trans h.blk, ?_, ⟨X0, hX0.keepS hk (fun b hb e => ?_), hX0L.ki hi⟩, h.ag.keepS hk (fun b hb e => ?_), ⟨_, hM, ?_, fun q => ?_⟩, inv2, h.bB⟩, hi⟩
  · have : shQ.O w' B tQ vo t.op := h.op.keepS hk (fun b hb e => by simp at hb; subst hb; obtain ⟨cs, hc⟩ := h.op.tag _ e; exact hne _ _ _ hc rfl)
    simpa [Tr.op, setQ_keys] using this
  · simp at hb; subst hb; obtain ⟨cs, hc⟩ := hX0.tag _ e; exact hne _ _ _ hc rfl
  · simp at hb; subst hb; obtain ⟨cs, hc⟩ := h.ag.tag _ e; exact hne _ _ _ hc rfl
  · have := setQ_len (a := a) h.inv.nd hm
    simp only [Tr.rec']
    rw [this, List.length_append, hRL.1]; rfl
  · simp only [Tr.rec']
    rw [get_setQ h.inv.nd hq, MapS.get_append]
    by_cases e : q = a.q
    · subst e
      rw [if_pos rfl]
      rcases hRL.2 a.q with ⟨h1, h2⟩ | ⟨x', y', h1, h2, h3⟩
      · rw [h1]
        exact .inr ⟨x, a, by simp [MapS.get], rfl, hx.ki hi⟩
      · exfalso
        have := (get_rec h.inv.nd a.q y').1 h2
        have := nd_val h.inv.nd this hm
        cases this
    · rw [if_neg e]
      have e' : ¬ a.q = q := fun h => e h.symm
      rcases hRL.2 q with ⟨h1, h2⟩ | ⟨x', y', h1, h2, h3⟩
      · exact .inl ⟨by rw [h1]; simp [MapS.get, e'], h2⟩
      · exact .inr ⟨x', y', by rw [h1]; rfl, h2, h3.ki hi⟩
/-- A question is opened. -/
theorem setOpen (h : TrM w B bt bm vo vh vg t) {vo' : Value} {q : Qn} (hG : Grw w w' vo vo') (hO : shQ.O w' B tQ vo' (t.op ++ [q])) (hq : qOk q) (hn : q ∉ t.op) :
    TrM (w'.setCell ⟨bt, 5, none⟩ vo') B bt bm vo' vh vg { t with qs := t.qs ++ [(q, none)] } ∧ Keeps [bt] w' (w'.setCell ⟨bt, 5, none⟩ vo') ∧ KI w w' ∧ KI w' (w'.setCell ⟨bt, 5, none⟩ vo') := by
  obtain ⟨n1, n2, n3, n4⟩ := h.ne_bt
  obtain ⟨X0, hX0, hX0L⟩ := h.hi
  obtain ⟨R, hR, hRL⟩ := h.mp
  have hk := hG.keepsO
  have hi : KI w w' := hk.ki (fun b hb cs f e => by
    obtain ⟨cs', hc⟩ := h.op.tag b (by simpa using hb)
    exact tag_ne hc e (by decide) rfl)
  have hne : ∀ (e : TypeId) (b : Nat) (cs : Array Value), w.heap[b]? = some (Obj.cells cs e (0, 0)) → tQ ≠ e → b ∉ vo.ownBlock.toList := fun e b cs hb hn hm => by
    obtain ⟨cs', hc⟩ := h.op.tag b (by simpa using hm)
    exact tag_ne hc hb hn rfl
  have hblk : w'.heap[bt]? = _ := (hk.block bt h.lt.1 (hne _ _ _ h.blk (by decide))).trans h.blk
  have hhi : shA.O w' B tA vh X0 := hX0.keepS hk (fun b hb e => by obtain ⟨cs, hc⟩ := hX0.tag b e; exact hne _ _ _ hc (by decide) hb)
  have hag : shZ.O w' B 3 vg t.ag := h.ag.keepS hk (fun b hb e => by obtain ⟨cs, hc⟩ := h.ag.tag b e; exact hne _ _ _ hc (by decide) hb)
  have hR' : MapS.M ktQ aV w' bm R := hR.kept ktQ hk (fun hm => by
    obtain ⟨cs', hc⟩ := h.op.tag bm (by simpa using hm)
    obtain ⟨es, c, hmm⟩ := hR.isMap
    rw [hc] at hmm; cases hmm)
  obtain ⟨hk2, hi2⟩ := Keeps.setT (o := 5) hblk vo'
  have hnv : vo'.ownBlock ≠ some bt := fun e => by
    obtain ⟨cs, hc⟩ := hO.tag bt e
    exact tag_ne hblk hc (by decide) rfl
  have hrec : recOf (t.qs ++ [(q, none)]) = recOf t.qs := by unfold recOf; simp
  refine ⟨⟨?_, ?_, ⟨X0, hhi.keepS hk2 (by simpa using n3), (hX0L.ki hi).ki hi2⟩, hag.keepS hk2 (by simpa using n4), ⟨R, hR'.kept ktQ hk2 (by simpa using n1), ?_⟩, ?_, h.bB⟩, hk2, hi, hi2⟩
  · have := setCs hblk 5 vo'
    simpa using this
  · have := hO.keepS hk2 (by simpa using hnv)
    simpa [Tr.op] using this
  · simp only [Tr.rec']; rw [hrec]; exact (hRL.ki hi).ki hi2
  · refine ⟨fun p hp => ?_, ?_, ?_, ?_, h.inv.hi, ?_⟩
    · simp only [Tr.op, List.map_append, List.mem_append] at hp
      rcases hp with hp | hp
      · exact h.inv.ok p hp
      · simp at hp; subst hp; exact hq
    · simp only [Tr.op, List.map_append]
      rw [List.nodup_append]
      exact ⟨h.inv.nd, by simp, fun a ha b hb e => by simp at hb; subst hb; subst e; exact hn ha⟩
    · simp only [Tr.rec']; rw [hrec]; exact h.inv.rq
    · simp only [Tr.rec']; rw [hrec]; exact h.inv.rk
    · simp only [Tr.rec']; rw [hrec]; exact h.inv.ro
end TrM
/-- What a step leaves, and which blocks it then writes. -/
structure Mv (S S' : List Nat) (w w' : World) : Prop where
  k : Keeps S w w'
  i : KI w w'
  s : ∀ b ∈ S', b ∈ S ∨ w.heap.size ≤ b
theorem Mv.trans {S S' S'' : List Nat} {a b c : World} (h : Mv S S' a b) (g : Mv S' S'' b c) : Mv S S'' a c :=
  ⟨h.k.fresh g.k h.s, h.i.trans g.i, fun x hx => (g.s x hx).elim (h.s x) (fun hle => .inr (Nat.le_trans h.k.size hle))⟩
theorem Mv.nil {S : List Nat} {w w' : World} (h : Keeps [] w w') : Mv S S w w' := ⟨h.of_nil, h.ki0, fun _ hb => .inl hb⟩
namespace TrM
variable {w w' : World} {B bt bm : Nat} {vo vh vg : Value} {t : Tr}
theorem mvSet (h : TrM w B bt bm vo vh vg t) (o : Nat) (v : Value) : Mv (ownT bt bm vo vh vg) (ownT bt bm vo vh vg) w (w.setCell ⟨bt, o, none⟩ v) := by
  obtain ⟨hk, hi⟩ := Keeps.setT (o := o) h.blk v
  exact ⟨hk.mono (fun b hb => by simp at hb; subst hb; exact mem_ownT.2 (.inl rfl)), hi, fun _ hb => .inl hb⟩
theorem mvHist {vh' : Value} {X : List AnV} {a : Ans} (h : TrM w B bt bm vo vh vg t) (hG : Grw w w' vh vh') (hO : shA.O w' B tA vh' X) (hL : LA w' X (t.hist ++ [a])) (ha : a.Ok) :
    Mv (ownT bt bm vo vh vg) (ownT bt bm vo vh' vg) w (w'.setCell ⟨bt, 8, none⟩ vh') := by
  obtain ⟨_, hk, hi, hi2⟩ := h.setHist hG hO hL ha
  refine ⟨(hG.keepsO.mono (fun b hb => mem_ownT.2 (.inr (.inr (.inr (.inl (by simpa using hb))))))).trans (hk.mono (fun b hb => by simp at hb; subst hb; exact mem_ownT.2 (.inl rfl))), hi.trans hi2, fun b hb => ?_⟩
  rcases mem_ownT.1 hb with e | e | e | e | e
  · exact .inl (mem_ownT.2 (.inl e))
  · exact .inl (mem_ownT.2 (.inr (.inl e)))
  · exact .inl (mem_ownT.2 (.inr (.inr (.inl e))))
  · rcases hG.own with e2 | ⟨k, e2, hle⟩
    · exact .inl (mem_ownT.2 (.inr (.inr (.inr (.inl (e2 ▸ e))))))
    · rw [e2] at e; cases e; exact .inr hle
  · exact .inl (mem_ownT.2 (.inr (.inr (.inr (.inr e)))))
theorem mvRec {a : Ans} {x : AnV} {R : List (Qn × AnV)} (h : TrM w B bt bm vo vh vg t) (hR : MapS.M ktQ aV w bm R) (hRL : LR w R t.rec') (ho : isOpen a.q t.qs = true) (hk : Keeps [bm] w w') (hM : MapS.M ktQ aV w' bm (R ++ [(a.q, x)])) (hx : InA w x a) (ha : a.Ok) (hkn : a.kn = true) :
    Mv (ownT bt bm vo vh vg) (ownT bt bm vo vh vg) w w' := 
  ⟨hk.mono (fun b hb => by simp at hb; subst hb; exact mem_ownT.2 (.inr (.inl rfl))), (h.setRec hR hRL ho hk hM hx ha hkn).2, fun _ hb => .inl hb⟩
theorem mvOpen {vo' : Value} {q : Qn} (h : TrM w B bt bm vo vh vg t) (hG : Grw w w' vo vo') (hO : shQ.O w' B tQ vo' (t.op ++ [q])) (hq : qOk q) (hn : q ∉ t.op) :
    Mv (ownT bt bm vo vh vg) (ownT bt bm vo' vh vg) w (w'.setCell ⟨bt, 5, none⟩ vo') := by
  obtain ⟨_, hk, hi, hi2⟩ := h.setOpen hG hO hq hn
  refine ⟨(hG.keepsO.mono (fun b hb => mem_ownT.2 (.inr (.inr (.inl (by simpa using hb)))))).trans (hk.mono (fun b hb => by simp at hb; subst hb; exact mem_ownT.2 (.inl rfl))), hi.trans hi2, fun b hb => ?_⟩
  rcases mem_ownT.1 hb with e | e | e | e | e
  · exact .inl (mem_ownT.2 (.inl e))
  · exact .inl (mem_ownT.2 (.inr (.inl e)))
  · rcases hG.own with e2 | ⟨k, e2, hle⟩
    · exact .inl (mem_ownT.2 (.inr (.inr (.inl (e2 ▸ e)))))
    · rw [e2] at e; cases e; exact .inr hle
  · exact .inl (mem_ownT.2 (.inr (.inr (.inr (.inl e)))))
  · exact .inl (mem_ownT.2 (.inr (.inr (.inr (.inr e)))))
end TrM
end Go.Proofs.Ythfdngjbcgkkfaa

namespace Go.Proofs.Ythfdngjbcgkkfaa
open Go.RowKit

/-- The cells of an answer that comes in say this answer. -/
structure InR (w : World) (x : AnV) (y : Ans) : Prop where
  m : x.m = y.m
  ow : x.ow = y.ow
  n : x.n = y.n
  ep : x.ep = y.ep
  kn : x.kn = y.kn
  rt : x.rt = y.rt
  lu : x.lu = y.lu
  ins : shT.R w x.v y.ins
theorem Sh.R.keepE {α : Type} {s : Sh α} {w w' : World} {v : Value} {L : List α} {S : List Nat} (h : s.R w v L) (hk : Keeps S w w') (hS : ∀ b ∈ S, L ≠ [] → v.ownBlock ≠ some b) : s.R w' v L := by
  by_cases e : L = []
  · subst e
    obtain ⟨h1, a, cap, rfl, h2, h3, h0, _⟩ := h
    exact ⟨h1, a, cap, rfl, h2, h3, h0, fun hp => by simp [Sh.cs] at hp⟩
  · exact h.keepS hk (fun b hb => hS b hb e)
def AnsPost (w : World) (B bt bm : Nat) (vo vh vg : Value) (r : Tr × Int) (e : Ending) (w' : World) : Prop :=
  ∃ vo' vh', e = .returned (.int .i64 r.2) ∧ TrM w' B bt bm vo' vh' vg r.1 ∧ Mv (ownT bt bm vo vh vg) (ownT bt bm vo' vh' vg) w w'
theorem InR.keep {w w' : World} {x : AnV} {y : Ans} {S : List Nat} (h : InR w x y) (hk : Keeps S w w') (hS : ∀ b ∈ S, x.v.ownBlock ≠ some b) : InR w' x y := ⟨h.m, h.ow, h.n, h.ep, h.kn, h.rt, h.lu, h.ins.keepS hk hS⟩
theorem keepsP_remade {S : Nat → Prop} (w : World) (A B : Obj) (hS : S w.heap.size) : Free.KeepsP S (w.alloc A) (w.alloc B) :=
  ⟨rfl, rfl, rfl, by simp, fun k hk hn => by
    have hk' : k < w.heap.size + 1 := by simpa using hk
    have hne : k ≠ w.heap.size := fun e => hn (e ▸ hS)
    rw [Below.heap_alloc _ _ _ (by omega), Below.heap_alloc _ _ _ (by omega)]⟩
theorem Free.KeepsP.drews {S : Nat → Prop} {a b : World} (h : Free.KeepsP S a b) : Free.KeepsP S a.drew b.drew := ⟨h.os, h.tape, h.output, h.size, h.block⟩
/-- What the map of the answers says of a question. -/
theorem LR.open {w : World} {R : List (Qn × AnV)} {t : Tr} {q : Qn} (h : LR w R t.rec') (hnd : t.op.Nodup) : ((MapS.get q R).isSome = true → isOpen q t.qs = false) ∧ ((MapS.get q R).isSome = false → isOpen q t.qs = decide (q ∈ t.op)) := by
  constructor
  · intro hs
    rcases h.2 q with ⟨h1, _⟩ | ⟨x, y, h1, h2, _⟩
    · rw [h1] at hs; cases hs
    · have hm := (get_rec hnd q y).1 h2
      cases ho : isOpen q t.qs with
      | false => rfl
      | true => have := nd_val hnd hm (isOpen_mem.1 ho); cases this
  · intro hs
    rcases h.2 q with ⟨h1, h2⟩ | ⟨x, y, h1, h2, _⟩
    · unfold isOpen
      rw [decide_eq_decide]
      constructor
      · exact fun hm => List.mem_map.2 ⟨_, hm, rfl⟩
      · intro hm
        obtain ⟨⟨k, u⟩, hm2, rfl⟩ := List.mem_map.1 hm
        cases u with
        | none => exact hm2
        | some b => rw [show MapS.get (k, some b).1 t.rec' = _ from (get_rec hnd k b).2 hm2] at h2; cases h2
    · rw [h1] at hs; cases hs
theorem TrM.histKI {w w' : World} {B bt bm : Nat} {vo vh vg vh' : Value} {t : Tr} (h : TrM w B bt bm vo vh vg t) (hG : Grw w w' vh vh') : KI w w' := by
  obtain ⟨X0, hX0, hX0L⟩ := h.hi
  exact hG.keepsO.ki (fun b hb cs f e => by
    obtain ⟨cs', hc⟩ := hX0.tag b (by simpa using hb)
    exact tag_ne hc e (by decide) rfl)
theorem LA.any {w : World} {m ep : Int} : ∀ {X : List AnV} {Y : List Ans}, LA w X Y → Y.any (Ans.odd m ep) = X.any (AnV.odd m ep)
  | [], [], _ => rfl
  | [], _ :: _, h => by have := h.1; simp at this
  | _ :: _, [], h => by have := h.1; simp at this
  | x :: X, y :: Y, h => by
    have ih := LA.any (X := X) (Y := Y) (m := m) (ep := ep) ⟨by have := h.1; simpa using this, fun k a b ha hb => h.2 (k + 1) a b (by simpa using ha) (by simpa using hb)⟩
    have h0 := h.2 0 x y rfl rfl
    rw [List.any_cons, List.any_cons, ih, Ans.odd, AnV.odd, h0.m, h0.ep]
/-- A trace whose answer is half in. -/
def Tr.mid (t : Tr) (a : Ans) (k : Nat) : Tr := { t.take a with qs := (a.ins.take k).foldl (openQ a.m) (setQ a.q a t.qs) }
theorem Tr.mid_all (t : Tr) (a : Ans) : t.mid a a.ins.length = (t.take a).put a := by unfold Tr.mid Tr.put; rw [List.take_length]; rfl
theorem Tr.mid_op (t : Tr) (a : Ans) (k : Nat) (h : t.qs.length + a.ins.length ≤ 1000) : (t.mid a k).op.length ≤ 1000 := by
  have h1 := fold_len a.m (a.ins.take k) (setQ a.q a t.qs)
  have h2 : (setQ a.q a t.qs).length = t.qs.length := by unfold setQ; simp
  have h3 : (a.ins.take k).length ≤ a.ins.length := by simp; omega
  unfold Tr.op Tr.mid
  simp only [List.length_map]
  omega
theorem Tr.mid_succ (t : Tr) (a : Ans) (k : Nat) (hk : k < a.ins.length) : t.mid a (k + 1) = { t.mid a k with qs := openQ a.m (t.mid a k).qs a.ins[k] } := by
  unfold Tr.mid
  rw [List.take_succ_eq_append_getElem hk, List.foldl_append]; rfl
theorem Tr.mid_old (t : Tr) (a : Ans) (k : Nat) (hk : k < a.ins.length) (h : (a.ins[k].1, a.m, a.ins[k].2.1) ∈ (t.mid a k).op) : t.mid a (k + 1) = t.mid a k := by
  rw [Tr.mid_succ t a k hk, show openQ a.m (t.mid a k).qs a.ins[k] = (t.mid a k).qs from if_pos h]
theorem Tr.mid_new (t : Tr) (a : Ans) (k : Nat) (hk : k < a.ins.length) (h : (a.ins[k].1, a.m, a.ins[k].2.1) ∉ (t.mid a k).op) : t.mid a (k + 1) = { t.mid a k with qs := (t.mid a k).qs ++ [((a.ins[k].1, a.m, a.ins[k].2.1), none)] } := by
  rw [Tr.mid_succ t a k hk, show openQ a.m (t.mid a k).qs a.ins[k] = _ from if_neg h]
set_option maxRecDepth 100000 in
set_option maxHeartbeats 10000000 in
theorem answer_c (w : World) (B bt bm : Nat) (vo vh vg : Value) (t : Tr) (x : AnV) (a : Ans) (h : TrM w B bt bm vo vh vg t) (hx : InR w x a) (ha : a.Ok) (hsep : ∀ b ∈ ownT bt bm vo vh vg, a.ins ≠ [] → x.v.ownBlock ≠ some b)
    (hB : B ≤ w.heap.size) (hl1 : t.hist.length ≤ 100000) (hl2 : t.qs.length + a.ins.length ≤ 1000) :
    Calls Try.prog 31 #[.pointer (some ⟨bt, 0, none⟩), aV x] w (AnsPost w B bt bm vo vh vg (t.answer a)) := by
  obtain ⟨X0, hX0⟩ : ∃ X, w.heap.size = X := ⟨_, rfl⟩
  obtain ⟨ao, co, rfl⟩ := h.op.form
  obtain ⟨ah, ch, rfl⟩ : ∃ a c, vh = .slice a t.hist.length c := by
    obtain ⟨X, hX, hXL⟩ := h.hi
    obtain ⟨a, c, e⟩ := hX.form
    exact ⟨a, c, by rw [e, hXL.1]⟩
  obtain ⟨LO, hLO⟩ : ∃ n, t.op.length = n := ⟨_, rfl⟩
  obtain ⟨LH, hLH⟩ : ∃ n, t.hist.length = n := ⟨_, rfl⟩
  rw [hLO, hLH] at h hsep ⊢
  replace hLO := Lib.hid hLO
  replace hLH := Lib.hid hLH
  obtain ⟨x0, x1, x2, x3, x4, x5, x6, x7, x8, x9⟩ := x
  obtain ⟨i1, i2, i3, i4, i5, i6, i7, hI⟩ := hx
  simp only [AnV.v] at i1 i2 i3 i4 i5 i6 i7 hI hsep
  subst i1 i2 i3 i4 i5 i6 i7
  have hkA : Keeps [] w (w.alloc (.cells #[.int .i64 a.m, .int .i64 a.ow, .int .u64 a.n, .int .i64 a.ep, .bool a.kn, .bool a.rt, .int .i64 a.lu, .slice x7 x8 x9] tA)) := (Keeps.refl _ _).alloc _
  have hb0 := heap_alloc_new w (.cells #[.int .i64 a.m, .int .i64 a.ow, .int .u64 a.n, .int .i64 a.ep, .bool a.kn, .bool a.rt, .int .i64 a.lu, .slice x7 x8 x9] tA)
  have hzA : (w.alloc (.cells #[.int .i64 a.m, .int .i64 a.ow, .int .u64 a.n, .int .i64 a.ep, .bool a.kn, .bool a.rt, .int .i64 a.lu, .slice x7 x8 x9] tA)).heap.size = w.heap.size + 1 := by simp
  have hA := h.keeps hkA
  have hIA := hI.keeps hkA
  obtain ⟨c0, c1, c2, c3, c4, c5, c6, c7, c8, c9, c10, c11⟩ := hA.cells
  have hlt := hA.lt
  have hlt0 := h.lt
  have hown0 : ∀ b ∈ ownT bt bm (.slice ao LO co) (.slice ah LH ch) vg, b < X0 := fun b hb => by have := (h.own_tag hb).2.1; omega
  replace hown0 := Lib.hid hown0
  simp only [aV, AnV.v]
  by_cases hs : t.state = 0
  case neg =>
    have hs1 : (t.state != 0) = true := by simpa using hs
    have hr : t.answer a = (t, 9) := by unfold Tr.answer; rw [if_pos hs]
    rw [hr]
    replace hs := Lib.hid hs
    replace hr := Lib.hid hr
    replace hA := Lib.hid hA
    replace hkA := Lib.hid hkA
    clear hb0 h hI hIA hsep c0 c1 c2 c3 c4 c5 c6 c7 c8 c10 c11
    go_enter Try.func31, Try.ntmps31
    go_wp2
    go_ret
    exact ⟨_, _, rfl, hA.out, .nil hkA.out⟩
  case pos =>
    rw [hs] at c9
    obtain ⟨R, hR, hRL⟩ := hA.mp
    obtain ⟨y0, y1, y2, y3, y4, y5, y6, y7, yf, ylt⟩ := cells8 hb0
    have hq0 : qOk a.q := ha.q
    rw [hX0] at hzA hb0 y0 y1 y2 y3 y4 y5 y6 y7 yf ylt hlt0
    have hlook := fun (w' : World) (hb : w'.heap[bm]? = (w.alloc (.cells #[.int .i64 a.m, .int .i64 a.ow, .int .u64 a.n, .int .i64 a.ep, .bool a.kn, .bool a.rt, .int .i64 a.lu, .slice x7 x8 x9] tA)).heap[bm]?) => MapS.M.look_ok ktQ (k := a.q) Try.underlying81 (aV .zero) zeroA (hR.at' hb) hq0
    obtain ⟨xv, hxv⟩ : ∃ xv : AnV, ((MapS.get a.q R).map aV).getD (aV .zero) = aV xv := by
      cases MapS.get a.q R with
      | none => exact ⟨_, rfl⟩
      | some u => exact ⟨u, rfl⟩
    obtain ⟨rb, hrb⟩ : ∃ rb, (MapS.get a.q R).isSome = rb := ⟨_, rfl⟩
    rw [hxv, hrb] at hlook
    obtain ⟨v0, v1, v2, v3, v4, v5, v6, v7, v8, v9⟩ := xv
    simp only [ktQ, qV, Ans.q, aV, AnV.v] at hlook
    replace hxv := Lib.hid hxv
    replace hrb := Lib.hid hrb
    replace hA := Lib.hid hA
    replace hkA := Lib.hid hkA
    replace hb0 := Lib.hid hb0
    replace hR := Lib.hid hR
    replace hRL := Lib.hid hRL
    replace hIA := Lib.hid hIA
    replace hs := Lib.hid hs
    replace hq0 := Lib.hid hq0
    replace hlook := Lib.hid hlook
    replace hX0 := Lib.hid hX0
    replace hsep := Lib.hid hsep
    clear h hI
    go_enter Try.func31, Try.ntmps31
    go_wp2
    generalize (w.alloc (.cells #[.int .i64 a.m, .int .i64 a.ow, .int .u64 a.n, .int .i64 a.ep, .bool a.kn, .bool a.rt, .int .i64 a.lu, .slice x7 x8 x9] tA)) = W at *
    rw [hX0.out]
    have hkB : Keeps [] W (W.alloc (.cells #[.int .i64 a.m, .int .i64 a.ow, .int .u64 a.n] tQ)) := (Keeps.refl _ _).alloc _
    have hbq := heap_alloc_new W (.cells #[.int .i64 a.m, .int .i64 a.ow, .int .u64 a.n] tQ)
    have hzB : (W.alloc (.cells #[.int .i64 a.m, .int .i64 a.ow, .int .u64 a.n] tQ)).heap.size = W.heap.size + 1 := by simp
    have hb01 := (hkB.block X0 (by omega) (by simp)).trans hb0.out
    have hA1 := hA.out.keeps hkB
    have hIA1 := hIA.out.keeps hkB
    have hR1 := hR.out.keeps ktQ hkB
    have hRL1 := hRL.out.ki hkB.ki0
    have hkAB := hkA.out.trans hkB
    have hbm1 := hkB.block bm hlt.2 (by simp)
    have hlook1 := fun (w' : World) hb => hlook.out w' (Eq.trans hb hbm1)
    generalize (W.alloc (.cells #[.int .i64 a.m, .int .i64 a.ow, .int .u64 a.n] tQ)) = W1 at *
    rw [hzA] at hbq hzB
    obtain ⟨d0, d1, d2, d3, d4, d5, d6, d7, d8, d9, d10, d11⟩ := hA1.cells
    rw [hs.out] at d9
    obtain ⟨y0, y1, y2, y3, y4, y5, y6, y7, yf, ylt⟩ := cells8 hb01
    obtain ⟨r0, r1, r2⟩ := cells3t hbq
    have hlt1 := hA1.lt
    replace hA1 := Lib.hid hA1
    replace hIA1 := Lib.hid hIA1
    replace hR1 := Lib.hid hR1
    replace hRL1 := Lib.hid hRL1
    replace hkAB := Lib.hid hkAB
    replace hlook1 := Lib.hid hlook1
    replace hbq := Lib.hid hbq
    replace hb01 := Lib.hid hb01
    clear hb0 hA hIA hR hRL hkA hkB hlook hbm1 hlt c0 c1 c2 c3 c4 c5 c6 c7 c8 c9 c10 c11 hzA
    refine Free.wp_region_chain (fun i => i == 9 || i == 10) (fun i => true) (fun j b => j = 10 ∧ W1.heap.size ≤ b) (by kernel_rfl) (by kernel_rfl) (by kernel_rfl) ?_
    (repeat (first | (apply Free.cw_pure rfl rfl; (intro w'; go_simp <;> exact rfl); go_frame) | (apply Free.cw_steady rfl rfl rfl; (intro w' hS2; have z0 := Free.sx_cell hS2 d7 (fun _ _ hT => by omega); have z1 := Free.sx_cell hS2 r0 (fun _ _ hT => by omega); have z2 := Free.sx_cell hS2 r1 (fun _ _ hT => by omega); have z3 := Free.sx_cell hS2 r2 (fun _ _ hT => by omega); have z5 := hlook1.out w' (hS2.block bm hlt1.2 (fun ⟨_, _, _, hT⟩ => by omega)); go_simp <;> exact rfl); go_frame)))
    refine Free.cw_loud rfl rfl (fun K hK => ?_)
    go_wp2
    refine hK _ _ rfl (Free.KeepsP.alloc _ _ _) ?_
    clear hK K
    (repeat (apply Free.cw_pure rfl rfl; (intro w'; go_simp <;> exact rfl); go_frame))
    refine Free.cw_loud rfl rfl (fun K hK => ?_)
    go_wp2
    refine hK _ _ rfl (keepsP_remade (S := fun b => True ∧ W1.heap.size ≤ b) W1 _ _ ⟨trivial, Nat.le_refl _⟩).drews ?_
    clear hK K
    (repeat (apply Free.cw_pure rfl rfl; (intro w'; go_simp <;> exact rfl); go_frame))
    refine Free.cw_nil ?_
    have hkC : Keeps [] W1 ((W1.alloc (.cells #[.int .i64 v0, .int .i64 v1, .int .u64 v2, .int .i64 v3, .bool v4, .bool v5, .int .i64 v6, .slice v7 v8 v9] tA)).drew) := ((Keeps.refl _ _).alloc _).drew
    have hb02 := (hkC.block X0 (by omega) (by simp)).trans hb01.out
    have hbq2 := (hkC.block (X0 + 1) (by omega) (by simp)).trans hbq.out
    have hA2 := hA1.out.keeps hkC
    have hIA2 := hIA1.out.keeps hkC
    have hR2 := hR1.out.keeps ktQ hkC
    have hRL2 := hRL1.out.ki hkC.ki0
    have hk02 := hkAB.out.trans hkC
    have hz2 : ((W1.alloc (.cells #[.int .i64 v0, .int .i64 v1, .int .u64 v2, .int .i64 v3, .bool v4, .bool v5, .int .i64 v6, .slice v7 v8 v9] tA)).drew).heap.size = X0 + 3 := by simp [hzB]
    generalize ((W1.alloc (.cells #[.int .i64 v0, .int .i64 v1, .int .u64 v2, .int .i64 v3, .bool v4, .bool v5, .int .i64 v6, .slice v7 v8 v9] tA)).drew) = W2 at *
    obtain ⟨d0, d1, d2, d3, d4, d5, d6, d7, d8, d9, d10, d11⟩ := hA2.cells
    rw [hs.out] at d9
    obtain ⟨y0, y1, y2, y3, y4, y5, y6, y7, yf, ylt⟩ := cells8 hb02
    obtain ⟨r0, r1, r2⟩ := cells3t hbq2
    have hlt2 := hA2.lt
    obtain ⟨hop1, hop2⟩ := hRL2.open (q := a.q) hA2.inv.nd
    rw [hrb.out] at hop1 hop2
    replace hA2 := Lib.hid hA2
    replace hIA2 := Lib.hid hIA2
    replace hR2 := Lib.hid hR2
    replace hRL2 := Lib.hid hRL2
    replace hk02 := Lib.hid hk02
    replace hbq2 := Lib.hid hbq2
    replace hb02 := Lib.hid hb02
    replace hop1 := Lib.hid hop1
    replace hop2 := Lib.hid hop2
    clear hb01 hbq hA1 hIA1 hR1 hRL1 hkAB hlook1 hkC hlt1 hzB
    cases rb with
    | true =>
      have hr : t.answer a = (t, 6) := by unfold Tr.answer; rw [if_neg (by simp [hs.out]), if_pos (hop1.out rfl)]
      replace hr := Lib.hid hr
      go_wp2
      refine Free.wp_region_chain (fun i => i == 7) (fun i => true) (fun _ _ => False) (by kernel_rfl) (by kernel_rfl) (by kernel_rfl) ?_
      (repeat (first | (apply Free.cw_pureW rfl rfl; (intro w'; go_simp <;> exact rfl); go_frame) | (apply Free.cw_steadyW rfl rfl rfl; (intro w' hS; have q0 := Free.sx_cell hS d5 (fun _ _ hT => hT); go_simp <;> exact rfl); go_frame) | (refine Free.cw_skip rfl ?_; go_frame)))
      refine Free.cw_nil ?_
      go_wp2
      go_ret
      rw [hr.out]
      exact ⟨_, _, rfl, hA2.out.keeps ((Keeps.refl _ _).drew), .nil hk02.out.drew⟩
    | false =>
      have hcon := fun (W : World) (hk : Keeps [] W2 W) => containsQ_c W _ t.op a.q (hA2.out.op.r.keeps hk)
      obtain ⟨ib, hib⟩ : ∃ ib, decide (a.q ∈ t.op) = ib := ⟨_, rfl⟩
      rw [hib] at hcon
      simp only [qV, Ans.q] at hcon
      have hof : isOpen a.q t.qs = ib := (hop2.out rfl).trans hib
      replace hib := Lib.hid hib
      replace hof := Lib.hid hof
      replace hcon := Lib.hid hcon
      go_wp2
      refine Free.wp_region_chain (fun i => i == 7) (fun i => true) (fun _ _ => False) (by kernel_rfl) (by kernel_rfl) (by kernel_rfl) ?_
      (repeat (first | (apply Free.cw_pureW rfl rfl; (intro w'; go_simp <;> exact rfl); go_frame) | (apply Free.cw_steadyW rfl rfl rfl; (intro w' hS; have q0 := Free.sx_cell hS d5 (fun _ _ hT => hT); have q1 := Free.sx_cell hS r0 (fun _ _ hT => hT); have q2 := Free.sx_cell hS r1 (fun _ _ hT => hT); have q3 := Free.sx_cell hS r2 (fun _ _ hT => hT); go_simp <;> exact rfl); go_frame) | (refine Free.cw_skip rfl ?_; go_frame)))
      refine Free.cw_loudW rfl rfl (fun K hK => ?_)
      go_wp2_with fail
      refine (hcon.out _ ((Keeps.refl [] _).drew)).mono ?_
      rintro e w3 ⟨rfl, hk3⟩
      refine hK _ _ rfl (Free.KeepsP.of hk3 (by simp)) ?_
      clear hK K
      (repeat (first | (apply Free.cw_pureW rfl rfl; (intro w'; go_simp <;> exact rfl); go_frame) | (apply Free.cw_steadyW rfl rfl rfl; (intro w' hS; have q0 := Free.sx_cell hS d5 (fun _ _ hT => hT); have q1 := Free.sx_cell hS r0 (fun _ _ hT => hT); have q2 := Free.sx_cell hS r1 (fun _ _ hT => hT); have q3 := Free.sx_cell hS r2 (fun _ _ hT => hT); go_simp <;> exact rfl); go_frame) | (refine Free.cw_skip rfl ?_; go_frame)))
      refine Free.cw_nil ?_
      have hk23 : Keeps [] W2 w3 := ((Keeps.refl [] W2).drew).trans hk3
      have hb03 := (hk23.block X0 ylt (by simp)).trans hb02.out
      have hbq3 := (hk23.block (X0 + 1) (by omega) (by simp)).trans hbq2.out
      have hA3 := hA2.out.keeps hk23
      have hIA3 := hIA2.out.keeps hk23
      have hR3 := hR2.out.keeps ktQ hk23
      have hRL3 := hRL2.out.ki hk23.ki0
      have hk03 := hk02.out.trans hk23
      have hz3 := hk23.size
      rw [hz2] at hz3
      obtain ⟨d0, d1, d2, d3, d4, d5, d6, d7, d8, d9, d10, d11⟩ := hA3.cells
      rw [hs.out] at d9
      obtain ⟨y0, y1, y2, y3, y4, y5, y6, y7, yf, ylt⟩ := cells8 hb03
      obtain ⟨r0, r1, r2⟩ := cells3t hbq3
      have hlt3 := hA3.lt
      have hfr := hA3.free
      replace hA3 := Lib.hid hA3
      replace hIA3 := Lib.hid hIA3
      replace hR3 := Lib.hid hR3
      replace hRL3 := Lib.hid hRL3
      replace hk03 := Lib.hid hk03
      replace hbq3 := Lib.hid hbq3
      replace hb03 := Lib.hid hb03
      clear hb02 hbq2 hA2 hIA2 hR2 hRL2 hk02 hk23 hk3 hlt2 hz2 hop1 hop2 hcon
      cases ib with
      | false =>
        have hr : t.answer a = (t, 6) := by unfold Tr.answer; rw [if_neg (by simp [hs.out]), if_pos hof.out]
        replace hr := Lib.hid hr
        go_wp2
        go_ret
        rw [hr.out]
        exact ⟨_, _, rfl, hA3.out, .nil hk03.out⟩
      | true =>
        have hvX : ∀ b, (Value.slice ah LH ch).ownBlock = some b → b < X0 ∧ b ≠ bt := fun b hb => ⟨hown0.out b (mem_ownT.2 (.inr (.inr (.inr (.inl hb))))), fun e => hA3.out.ne_bt.2.2.1 (e ▸ hb)⟩
        replace hvX := Lib.hid hvX
        have hcop := fun (W : World) (hk : Keeps [] w3 W) => copied_c W ⟨a.m, a.ow, a.n, a.ep, a.kn, a.rt, a.lu, x7, x8, x9⟩ a.ins (hIA3.out.keeps hk) (by have := ha.len; omega)
        simp only [aV, AnV.v] at hcop
        replace hcop := Lib.hid hcop
        go_wp2
        refine Free.wp_region_chain (fun i => i == 6 || i == 7 || i == 8 || i == 11) (fun i => true) (fun j b => (j = 8 ∧ (Value.slice ah LH ch).ownBlock = some b) ∨ (j = 11 ∧ b = bt)) (by kernel_rfl) (by kernel_rfl) (by kernel_rfl) ?_
        (repeat (first | (apply Free.cw_pure rfl rfl; (intro w'; go_simp <;> exact rfl); go_frame) | (apply Free.cw_steady rfl rfl rfl; (intro w' hS; have q0 := Free.sx_cell hS d8 (fun j hp hT => Or.elim hT (fun h => (hvX.out _ h.2).2 rfl) (fun h => by obtain ⟨rfl, _⟩ := h; exact absurd hp (by decide +kernel))); have q1 := Free.sx_cell hS y0 (fun j hp hT => Or.elim hT (fun h => by have := (hvX.out _ h.2).1; omega) (fun h => by have := h.2; omega)); have q2 := Free.sx_cell hS y1 (fun j hp hT => Or.elim hT (fun h => by have := (hvX.out _ h.2).1; omega) (fun h => by have := h.2; omega)); have q3 := Free.sx_cell hS y2 (fun j hp hT => Or.elim hT (fun h => by have := (hvX.out _ h.2).1; omega) (fun h => by have := h.2; omega)); have q4 := Free.sx_cell hS y3 (fun j hp hT => Or.elim hT (fun h => by have := (hvX.out _ h.2).1; omega) (fun h => by have := h.2; omega)); have q5 := Free.sx_cell hS y4 (fun j hp hT => Or.elim hT (fun h => by have := (hvX.out _ h.2).1; omega) (fun h => by have := h.2; omega)); have q6 := Free.sx_cell hS y5 (fun j hp hT => Or.elim hT (fun h => by have := (hvX.out _ h.2).1; omega) (fun h => by have := h.2; omega)); have q7 := Free.sx_cell hS y6 (fun j hp hT => Or.elim hT (fun h => by have := (hvX.out _ h.2).1; omega) (fun h => by have := h.2; omega)); have q8 := Free.sx_cell hS y7 (fun j hp hT => Or.elim hT (fun h => by have := (hvX.out _ h.2).1; omega) (fun h => by have := h.2; omega)); go_simp <;> exact rfl); go_frame) | (refine Free.cw_skip rfl ?_; go_frame)))
        refine Free.cw_loud rfl rfl (fun K hK => ?_)
        go_wp2_with fail
        refine (hcop.out _ ((Keeps.refl [] _).drew)).mono ?_
        rintro e w4 ⟨⟨z0, z1, z2, z3, z4, z5, z6, z7, z8, z9⟩, rfl, f0, f1, f2, f3, f4, f5, f6, hIO, hk4⟩
        simp only at f0 f1 f2 f3 f4 f5 f6
        subst f0 f1 f2 f3 f4 f5 f6
        refine hK _ _ rfl (Free.KeepsP.of hk4 (by simp)) ?_
        clear hK K
        simp only [AnV.v] at hIO
        have hk34 : Keeps [] w3 w4 := ((Keeps.refl [] w3).drew).trans hk4
        replace hIO := Lib.hid hIO
        clear hk4 hcop
        (repeat (apply Free.cw_pure rfl rfl; (intro w'; go_simp <;> exact rfl); go_frame))
        refine Free.cw_loud rfl rfl (fun K hK => ?_)
        go_wp2
        refine hK _ _ rfl (Free.KeepsP.alloc _ _ _) ?_
        clear hK K
        (repeat (apply Free.cw_pure rfl rfl; (intro w'; go_simp <;> exact rfl); go_frame))
        refine Free.cw_loud rfl rfl (fun K hK => ?_)
        obtain ⟨X, hX, hXL⟩ := hA3.out.hi
        have hX4 := hX.keeps (hk34.alloc (.cells #[.int .i64 a.m, .int .i64 a.ow, .int .u64 a.n, .int .i64 a.ep, .bool a.kn, .bool a.rt, .int .i64 a.lu, .slice z7 z8 z9] tA))
        have hA4 := hA3.out.keeps (hk34.alloc (.cells #[.int .i64 a.m, .int .i64 a.ow, .int .u64 a.n, .int .i64 a.ep, .bool a.kn, .bool a.rt, .int .i64 a.lu, .slice z7 z8 z9] tA))
        have hmade := Sh.O.one shA w4 (⟨a.m, a.ow, a.n, a.ep, a.kn, a.rt, a.lu, z7, z8, z9⟩ : AnV) #[.int .i64 a.m, .int .i64 a.ow, .int .u64 a.n, .int .i64 a.ep, .bool a.kn, .bool a.rt, .int .i64 a.lu, .slice z7 z8 z9] tA 0 rfl (by omega)
        have hlen := hLH.out
        have hXl := hXL.1
        have hlB := hA3.out.bB.1
        refine Sh.wp_app shA B infoA rfl Try.underlying27 (.slice ah LH ch) (.slice (some ⟨w4.heap.size, 0, none⟩) 1 1) X [(⟨a.m, a.ow, a.n, a.ep, a.kn, a.rt, a.lu, z7, z8, z9⟩ : AnV)] _ _ rfl rfl rfl hX4 hmade.r (by simp only [List.length_cons, List.length_nil]; omega) (by have := hk34.size; simp; omega) ?_
        intro v5 w5 hO5 hG5
        obtain ⟨a5, q5, rfl⟩ := hO5.form
        obtain ⟨N5, hN5⟩ : ∃ n, (X ++ [(⟨a.m, a.ow, a.n, a.ep, a.kn, a.rt, a.lu, z7, z8, z9⟩ : AnV)]).length = n := ⟨_, rfl⟩
        rw [hN5] at hO5 hG5 ⊢
        replace hN5 := Lib.hid hN5
        refine hK _ _ rfl (Free.KeepsP.of hG5.keepsO (fun b hb => .inl ⟨rfl, by simpa using hb⟩)) ?_
        clear hK K
        have hi45 := hA4.histKI hG5
        have hL5 := (hXL.ki ((hk34.alloc _).ki0.trans hi45)).snoc (x := ⟨a.m, a.ow, a.n, a.ep, a.kn, a.rt, a.lu, z7, z8, z9⟩) (y := a) ⟨rfl, rfl, rfl, rfl, rfl, rfl, rfl, (hIO.out.ki ((((Keeps.refl [] w4).alloc _).ki0).trans hi45))⟩
        obtain ⟨hT6, hk56, _, hi56⟩ := hA4.setHist hG5 hO5 hL5 ha
        have hmv := (Mv.nil (S := ownT bt bm (.slice ao LO co) (.slice ah LH ch) vg) (hk34.alloc (.cells #[.int .i64 a.m, .int .i64 a.ow, .int .u64 a.n, .int .i64 a.ep, .bool a.kn, .bool a.rt, .int .i64 a.lu, .slice z7 z8 z9] tA))).trans (hA4.mvHist hG5 hO5 hL5 ha)
        have hb5 := (hG5.keepsO.block bt hA4.lt.1 (by simpa using hA4.ne_bt.2.2.1)).trans hA4.blk
        have hlt5 := lt_of_blk hb5
        have c58 : ∃ u, w5.cell? ⟨bt, 8, none⟩ = some u := by rw [World.cell?, hb5]; exact ⟨_, rfl⟩
        have c5f : ∀ o, w5.frozen? ⟨bt, o, none⟩ = false := fun o => by simp [World.frozen?, hb5]
        obtain ⟨u8, c58⟩ := c58
        have hkx := hmv.k
        have hnX : ∀ k, X0 ≤ k → k ∉ ownT bt bm (.slice ao LO co) (.slice ah LH ch) vg := fun k hk hm => by have := hown0.out k hm; omega
        have hb06 := (hkx.block X0 ylt (hnX _ (Nat.le_refl _))).trans hb03.out
        have hbq6 := (hkx.block (X0 + 1) (lt_of_blk hbq3.out) (hnX _ (by omega))).trans hbq3.out
        have hIA6 := hIA3.out.keepE hkx (fun b hb => hsep.out b hb)
        have hz6 := hkx.size
        replace hT6 := Lib.hid hT6
        replace hk56 := Lib.hid hk56
        replace hmv := Lib.hid hmv
        replace hb06 := Lib.hid hb06
        replace hbq6 := Lib.hid hbq6
        replace hIA6 := Lib.hid hIA6
        replace hz6 := Lib.hid hz6
        clear hO5 hG5 hL5 hX hXL hX4 hmade hA4 hb5 hkx hi45 hi56
        (repeat (apply Free.cw_pure rfl rfl; (intro w'; go_simp <;> exact rfl); go_frame))
        refine Free.cw_loud rfl rfl (fun K hK => ?_)
        go_wp2
        refine hK _ _ rfl (Free.KeepsP.of hk56.out (fun b hb => .inr ⟨trivial, by simpa using hb⟩)) ?_
        clear hK K
        refine Free.cw_nil ?_
        generalize (w5.setCell ⟨bt, 8, none⟩ (.slice a5 N5 q5)) = W6 at *
        obtain ⟨d0, d1, d2, d3, d4, d5, d6, d7, d8, d9, d10, d11⟩ := hT6.out.cells
        obtain ⟨y0, y1, y2, y3, y4, y5, y6, y7, yf, ylt⟩ := cells8 hb06.out
        obtain ⟨r0, r1, r2⟩ := cells3t hbq6.out
        have hlt6 := hT6.out.lt
        have hfr6 := hT6.out.free
        simp only [Tr.take] at d9
        rw [hs.out] at d9
        clear hA3 hR3 hRL3 hlt3 hlt5 c58 c5f hk56 hIO hfr hk34 d0 d1 d2 d3 d4 d6 d10 d11 hlB
        obtain ⟨kn, hkn⟩ : ∃ k, a.kn = k := ⟨_, rfl⟩
        rw [hkn] at y4
        replace hkn := Lib.hid hkn
        cases kn with
        | false =>
          have hr : t.answer a = ({ t.take a with state := 4 }, 0) := by unfold Tr.answer; rw [if_neg (by simp [hs.out]), if_neg (by simp [hof.out]), if_pos hkn.out]
          replace hr := Lib.hid hr
          go_wp2
          go_ret
          rw [hr.out]
          exact ⟨_, _, rfl, hT6.out.setState 4, (Mv.nil hk03.out).trans (hmv.out.trans (hT6.out.mvSet 9 _))⟩
        | true =>
        obtain ⟨rt, hrt⟩ : ∃ k, a.rt = k := ⟨_, rfl⟩
        rw [hrt] at y5
        replace hrt := Lib.hid hrt
        cases rt with
        | true =>
          have hr : t.answer a = ({ t.take a with state := 3 }, 0) := by unfold Tr.answer; rw [if_neg (by simp [hs.out]), if_neg (by simp [hof.out]), if_neg (by simp [hkn.out]), if_pos hrt.out]
          replace hr := Lib.hid hr
          go_wp2
          go_ret
          rw [hr.out]
          exact ⟨_, _, rfl, hT6.out.setState 3, (Mv.nil hk03.out).trans (hmv.out.trans (hT6.out.mvSet 9 _))⟩
        | false =>
        obtain ⟨X6, hX6, hX6L⟩ := hT6.out.hi
        have hany := anyA_c W6 _ X6 X0 a.m a.ep hX6.r y0 y3
        obtain ⟨od, hod⟩ : ∃ d, X6.any (AnV.odd a.m a.ep) = d := ⟨_, rfl⟩
        rw [hod] at hany
        have hod2 : (t.hist ++ [a]).any (Ans.odd a.m a.ep) = od := by rw [← hod]; exact hX6L.any
        replace hany := Lib.hid hany
        replace hod2 := Lib.hid hod2
        clear hod hX6 hX6L
        go_wp2_with fail
        refine (hany.out).mono ?_
        rintro e w7 ⟨rfl, hk7⟩
        have hT7 := hT6.out.keeps hk7
        have hmv7 := hmv.out.trans (.nil hk7)
        have hz7 := hmv7.k.size
        have hb07 := (hmv7.k.block X0 (lt_of_blk hb03.out) (hnX _ (Nat.le_refl _))).trans hb03.out
        have hbq7 := (hmv7.k.block (X0 + 1) (lt_of_blk hbq3.out) (hnX _ (by omega))).trans hbq3.out
        have hIA7 := hIA3.out.keepE hmv7.k (fun b hb => hsep.out b hb)
        obtain ⟨d0, d1, d2, d3, d4, d5, d6, d7, d8, d9, d10, d11⟩ := hT7.cells
        obtain ⟨y0, y1, y2, y3, y4, y5, y6, y7, yf, ylt⟩ := cells8 hb07
        obtain ⟨r0, r1, r2⟩ := cells3t hbq7
        have hlt7 := hT7.lt
        have hfr7 := hT7.free
        have hne7 := hT7.ne_bt.1
        have hbmX : bm < X0 := hown0.out bm (mem_ownT.2 (.inr (.inl rfl)))
        replace hT7 := Lib.hid hT7
        replace hmv7 := Lib.hid hmv7
        replace hb07 := Lib.hid hb07
        replace hbq7 := Lib.hid hbq7
        replace hIA7 := Lib.hid hIA7
        clear hT6 hmv hb06 hbq6 hIA6 hlt6 hfr6 hz6 hany hk7 d0 d1 d2 d3 d4 d6 d8 d9 d10 d11
        cases od with
        | true =>
          have hr : t.answer a = ({ t.take a with state := 4 }, 0) := by unfold Tr.answer; rw [if_neg (by simp [hs.out]), if_neg (by simp [hof.out]), if_neg (by simp [hkn.out]), if_neg (by simp [hrt.out]), if_pos hod2.out]
          replace hr := Lib.hid hr
          have d9 := hT7.out.cells.2.2.2.2.2.2.2.2.2.1
          go_wp2
          go_ret
          rw [hr.out]
          exact ⟨_, _, rfl, hT7.out.setState 4, (Mv.nil hk03.out).trans (hmv7.out.trans (hT7.out.mvSet 9 _))⟩
        | false =>
        have hr : t.answer a = (((t.take a).put a).close, 0) := by unfold Tr.answer; rw [if_neg (by simp [hs.out]), if_neg (by simp [hof.out]), if_neg (by simp [hkn.out]), if_neg (by simp [hrt.out]), if_neg (by simp [hod2.out])]
        replace hr := Lib.hid hr
        have hcop := fun (W : World) (hk : Keeps [] w7 W) => copied_c W ⟨a.m, a.ow, a.n, a.ep, a.kn, a.rt, a.lu, x7, x8, x9⟩ a.ins (hIA7.out.keeps hk) (by have := ha.len; omega)
        simp only [aV, AnV.v] at hcop
        replace hcop := Lib.hid hcop
        go_wp2
        refine Free.wp_region_chain (fun i => i == 6 || i == 7) (fun i => true) (fun j b => j = 7 ∧ b = bm) (by kernel_rfl) (by kernel_rfl) (by kernel_rfl) ?_
        (repeat (first | (apply Free.cw_pure rfl rfl; (intro w'; go_simp <;> exact rfl); go_frame) | (apply Free.cw_steady rfl rfl rfl; (intro w' hS; have q0 := Free.sx_cell hS d7 (fun j hp hT => hne7 hT.2.symm); have q1 := Free.sx_cell hS r0 (fun j hp hT => by have := hT.2; omega); have q2 := Free.sx_cell hS r1 (fun j hp hT => by have := hT.2; omega); have q3 := Free.sx_cell hS r2 (fun j hp hT => by have := hT.2; omega); have q4 := Free.sx_cell hS y0 (fun j hp hT => by have := hT.2; omega); have q5 := Free.sx_cell hS y1 (fun j hp hT => by have := hT.2; omega); have q6 := Free.sx_cell hS y2 (fun j hp hT => by have := hT.2; omega); have q7 := Free.sx_cell hS y3 (fun j hp hT => by have := hT.2; omega); have q8 := Free.sx_cell hS y4 (fun j hp hT => by have := hT.2; omega); have q9 := Free.sx_cell hS y5 (fun j hp hT => by have := hT.2; omega); have q10 := Free.sx_cell hS y6 (fun j hp hT => by have := hT.2; omega); have q11 := Free.sx_cell hS y7 (fun j hp hT => by have := hT.2; omega); go_simp <;> exact rfl); go_frame) | (refine Free.cw_skip rfl ?_; go_frame)))
        refine Free.cw_loud rfl rfl (fun K hK => ?_)
        go_wp2_with fail
        refine (hcop.out _ ((Keeps.refl [] _).drew)).mono ?_
        rintro e w8 ⟨⟨z0, z1, z2, z3, z4, z5, z6, z7, z8, z9⟩, rfl, f0, f1, f2, f3, f4, f5, f6, hIO, hk8⟩
        simp only at f0 f1 f2 f3 f4 f5 f6
        subst f0 f1 f2 f3 f4 f5 f6
        refine hK _ _ rfl (Free.KeepsP.of hk8 (by simp)) ?_
        clear hK K
        simp only [AnV.v] at hIO
        have hk78 : Keeps [] w7 w8 := ((Keeps.refl [] w7).drew).trans hk8
        have hT8 := hT7.out.keeps hk78
        obtain ⟨R8, hR8, hRL8⟩ := hT8.mp
        have hget : MapS.get a.q R8 = none := by
          obtain ⟨ho1, _⟩ := hRL8.open (q := a.q) hT8.inv.nd
          cases hg : MapS.get a.q R8 with
          | none => rfl
          | some u => have := ho1 (by rw [hg]; rfl); rw [show (t.take a).qs = t.qs from rfl, hof.out] at this; cases this
        have hlen8 : R8.length < maxLen := by
          have h1 := hRL8.1
          have h2 := (rec_len t.qs).1
          have h3 : (t.take a).rec'.length = (recOf t.qs).length := rfl
          unfold maxLen; omega
        obtain ⟨w9, hrun, hM9, hk89⟩ := MapS.M.putNew ktQ Try.underlying81 hR8 ha.q hget hlen8 (⟨a.m, a.ow, a.n, a.ep, a.kn, a.rt, a.lu, z7, z8, z9⟩ : AnV)
        have hxA : InA w8 ⟨a.m, a.ow, a.n, a.ep, a.kn, a.rt, a.lu, z7, z8, z9⟩ a := ⟨rfl, rfl, rfl, rfl, rfl, rfl, rfl, hIO⟩
        obtain ⟨hT9, _⟩ := hT8.setRec hR8 hRL8 hof.out hk89 hM9 hxA ha hkn.out
        have hmv9 := (hmv7.out.trans (.nil hk78)).trans (hT8.mvRec hR8 hRL8 hof.out hk89 hM9 hxA ha hkn.out)
        simp only [ktQ, qV, Ans.q, aV, AnV.v] at hrun
        replace hT9 := Lib.hid hT9
        replace hmv9 := Lib.hid hmv9
        replace hk89 := Lib.hid hk89
        clear hk8 hIO hxA hM9 hRL8 hget hlen8 hT8 hcop
        (repeat (apply Free.cw_pure rfl rfl; (intro w'; go_simp <;> exact rfl); go_frame))
        refine Free.cw_loud rfl rfl (fun K hK => ?_)
        go_wp2
        refine hK _ _ rfl (Free.KeepsP.of hk89.out (fun b hb => ⟨trivial, by simpa using hb⟩)) ?_
        clear hK K
        refine Free.cw_nil ?_
        have hx8 : x8 = a.ins.length := by obtain ⟨_, _, e, _⟩ := hIA7.out.form; cases e; rfl
        have hT9' : TrM w9 B bt bm (.slice ao LO co) (.slice a5 N5 q5) vg (t.mid a 0) := hT9.out
        have hz9 := hmv9.out.k.size
        have hb09 := (hmv9.out.k.block X0 (lt_of_blk hb03.out) (hnX _ (Nat.le_refl _))).trans hb03.out
        obtain ⟨y0, y1, y2, y3, y4, y5, y6, y7, yf, ylt⟩ := cells8 hb09
        clear hz9 hb09 hrun hk89 hT9 hR8 hk78 hT7 hmv7 hb07 hbq7 hIA7 hlt7 hfr7 hne7
        have h88 : x8 ≤ 1000 := by omega
        replace hx8 := Lib.hid hx8
        replace hT9' := Lib.hid hT9'
        go_wp2
        go_loopw [88] (fun i wr => ∃ k : Nat, i = .int .i64 k ∧ k ≤ x8 ∧ ∃ vk, Hid (TrM wr B bt bm vk (.slice a5 N5 q5) vg (t.mid a k)) ∧ Hid (Mv (ownT bt bm (.slice ao LO co) (.slice ah LH ch) vg) (ownT bt bm vk (.slice a5 N5 q5) vg) w3 wr)) (fun i _ => x8 - (intOf i).toNat)
        case atStart => exact ⟨0, rfl, by omega, _, hT9', hmv9⟩
        case round =>
          obtain ⟨k, rfl, hk, vk, hTr, hmvr⟩ := hrel
          obtain ⟨ak, ck, rfl⟩ := hTr.out.op.form
          obtain ⟨LK, hLK⟩ : ∃ n, (t.mid a k).op.length = n := ⟨_, rfl⟩
          have hLK2 := Tr.mid_op t a k hl2
          rw [hLK] at hTr hmvr hLK2
          by_cases hlt : k < x8
          · have hki : k < a.ins.length := by rw [← hx8.out]; exact hlt
            obtain ⟨g, o, c', hv, he⟩ := (hIA3.out.keepE hmvr.out.k (fun b hb => hsep.out b hb)).elem hki
            cases hv
            obtain ⟨xx, hxx⟩ : ∃ xx, a.ins[k] = xx := ⟨_, rfl⟩
            have hxok := ha.ins a.ins[k] (List.getElem_mem hki)
            rw [hxx] at he hxok
            obtain ⟨e0, e1, e2⟩ := xx
            have f0 := he 0 _ rfl
            have f1 := he 1 _ rfl
            have f2 := he 2 _ rfl
            simp only [shT, Nat.add_zero] at f0 f1 f2
            have hbr := (hmvr.out.k.block X0 (lt_of_blk hb03.out) (hnX _ (Nat.le_refl _))).trans hb03.out
            obtain ⟨y0, y1, y2, y3, y4, y5, y6, y7, yf, ylt⟩ := cells8 hbr
            replace hxx := Lib.hid hxx
            replace hki := Lib.hid hki
            replace hxok := Lib.hid hxok
            clear he hbr
            go_wp2
            have hkA : Keeps [] wr ((wr.alloc (.cells #[.int .i64 e0, .int .u64 e1, .int .i64 e2] tI)).alloc (.cells #[.int .i64 e0, .int .i64 a.m, .int .u64 e1] tQ)) := ((Keeps.refl _ _).alloc _).alloc _
            have hbA := heap_alloc_new (wr.alloc (.cells #[.int .i64 e0, .int .u64 e1, .int .i64 e2] tI)) (.cells #[.int .i64 e0, .int .i64 a.m, .int .u64 e1] tQ)
            have hzA : (wr.alloc (.cells #[.int .i64 e0, .int .u64 e1, .int .i64 e2] tI)).heap.size = wr.heap.size + 1 := by simp
            rw [hzA] at hbA
            generalize hWA : ((wr.alloc (.cells #[.int .i64 e0, .int .u64 e1, .int .i64 e2] tI)).alloc (.cells #[.int .i64 e0, .int .i64 a.m, .int .u64 e1] tQ)) = WA at *
            clear hWA hzA
            have hTA := hTr.out.keeps hkA
            have hmvA := hmvr.out.trans (.nil hkA)
            obtain ⟨r0, r1, r2⟩ := cells3t hbA
            have d5 := hTA.cells.2.2.2.2.2.1
            have hltA := hTA.lt
            have hcon := fun (W : World) (hk : Keeps [] WA W) => containsQ_c W _ _ (e0, a.m, e1) (hTA.op.r.keeps hk)
            obtain ⟨ib, hib⟩ : ∃ ib, decide ((e0, a.m, e1) ∈ (t.mid a k).op) = ib := ⟨_, rfl⟩
            rw [hib] at hcon
            simp only [qV] at hcon
            replace hib := Lib.hid hib
            replace hcon := Lib.hid hcon
            replace hTA := Lib.hid hTA
            replace hmvA := Lib.hid hmvA
            replace hbA := Lib.hid hbA
            replace hkA := Lib.hid hkA
            have hownr : ∀ b ∈ ownT bt bm (.slice ak LK ck) (.slice a5 N5 q5) vg, b < wr.heap.size := fun b hb => (hTr.out.own_tag hb).2.1
            clear hTr hmvr
            refine Free.wp_region_chain (fun i => i == 5) (fun i => true) (fun _ _ => False) (by kernel_rfl) (by kernel_rfl) (by kernel_rfl) ?_
            (repeat (first | (apply Free.cw_pure rfl rfl; (intro w'; go_simp <;> exact rfl); go_frame) | (apply Free.cw_steady rfl rfl rfl; (intro w' hS; have q0 := Free.sx_cell hS d5 (fun _ _ hT => hT); have q1 := Free.sx_cell hS r0 (fun _ _ hT => hT); have q2 := Free.sx_cell hS r1 (fun _ _ hT => hT); have q3 := Free.sx_cell hS r2 (fun _ _ hT => hT); go_simp <;> exact rfl); go_frame) | (refine Free.cw_skip rfl ?_; go_frame)))
            refine Free.cw_loud rfl rfl (fun K hK => ?_)
            go_wp2_with fail
            refine (hcon.out _ ((Keeps.refl [] _).drew)).mono ?_
            rintro e wB ⟨rfl, hkB⟩
            refine hK _ _ rfl (Free.KeepsP.of hkB (by simp)) ?_
            clear hK K hcon
            refine Free.cw_nil ?_
            have hkAB : Keeps [] WA wB := ((Keeps.refl [] WA).drew).trans hkB
            have hTB := hTA.out.keeps hkAB
            have hmvB := hmvA.out.trans (.nil hkAB)
            have hbB := (hkAB.block _ (lt_of_blk hbA.out) (by simp)).trans hbA.out
            obtain ⟨r0, r1, r2⟩ := cells3t hbB
            have d5 := hTB.cells.2.2.2.2.2.1
            have hltB := hTB.lt
            have hsB := hTB.op.lt
            have hwrB : wr.heap.size + 1 < wB.heap.size := lt_of_blk hbB
            have hownB : ∀ b ∈ ownT bt bm (.slice ak LK ck) (.slice a5 N5 q5) vg, b < wB.heap.size := fun b hb => (hTB.own_tag hb).2.1
            replace hTB := Lib.hid hTB
            replace hmvB := Lib.hid hmvB
            clear hTA hmvA hbA hkA hkB hkAB hbB hltA
            cases ib with
            | true =>
              go_wp2
              go_roundw
              case rel => exact ⟨k + 1, rfl, by omega, _, by rw [Tr.mid_old t a k hki.out (by rw [hxx.out]; simpa using hib.out)]; exact hTB, hmvB⟩
              case measure => simp [intOf]; omega
            | false =>
              have hne : ((LK : Int) == 1024) = false := by simp; omega
              have hbv : ∀ b, (Value.slice ak LK ck).ownBlock = some b → b < wr.heap.size ∧ b ≠ bt := fun b hb => ⟨hownr b (mem_ownT.2 (.inr (.inr (.inl hb)))), fun e => hTB.out.ne_bt.2.1 (e ▸ hb)⟩
              have hbtr := hownr bt (mem_ownT.2 (.inl rfl))
              replace hbv := Lib.hid hbv
              clear hownr hownB
              go_wp2
              refine Free.wp_region_chain (fun i => i == 6 || i == 7 || i == 10) (fun i => true) (fun j b => (j = 7 ∧ (Value.slice ak LK ck).ownBlock = some b) ∨ (j = 10 ∧ b = bt)) (by kernel_rfl) (by kernel_rfl) (by kernel_rfl) ?_
              (repeat (first | (apply Free.cw_pure rfl rfl; (intro w'; go_simp <;> exact rfl); go_frame) | (apply Free.cw_steady rfl rfl rfl; (intro w' hS; have q0 := Free.sx_cell hS d5 (fun j hp hT => Or.elim hT (fun h => (hbv.out _ h.2).2 rfl) (fun h => by obtain ⟨rfl, _⟩ := h; exact absurd hp (by decide +kernel))); have q1 := Free.sx_cell hS r0 (fun j hp hT => Or.elim hT (fun h => by have := (hbv.out _ h.2).1; omega) (fun h => by have := h.2; omega)); have q2 := Free.sx_cell hS r1 (fun j hp hT => Or.elim hT (fun h => by have := (hbv.out _ h.2).1; omega) (fun h => by have := h.2; omega)); have q3 := Free.sx_cell hS r2 (fun j hp hT => Or.elim hT (fun h => by have := (hbv.out _ h.2).1; omega) (fun h => by have := h.2; omega)); go_simp <;> exact rfl); go_frame) | (refine Free.cw_skip rfl ?_; go_frame)))
              refine Free.cw_loud rfl rfl (fun K hK => ?_)
              go_wp2
              refine hK _ _ rfl (Free.KeepsP.alloc _ _ _) ?_
              clear hK K
              (repeat (apply Free.cw_pure rfl rfl; (intro w'; go_simp <;> exact rfl); go_frame))
              refine Free.cw_loud rfl rfl (fun K hK => ?_)
              have hmade := (Sh.O.one shQ wB (e0, a.m, e1) #[.int .i64 e0, .int .i64 a.m, .int .u64 e1] tQ 0 rfl (by omega)).keeps ((Keeps.refl [] _).drew)
              have hkC : Keeps [] wB ((wB.alloc (.cells #[.int .i64 e0, .int .i64 a.m, .int .u64 e1] tQ)).drew) := ((Keeps.refl _ _).alloc _).drew
              have hTC := hTB.out.keeps hkC
              have hmvC := hmvB.out.trans (.nil hkC)
              have hBB := hTB.out.bB.1
              refine Sh.wp_app shQ B infoQ rfl Try.underlying80 (.slice ak LK ck) (.slice (some ⟨wB.heap.size, 0, none⟩) 1 1) (t.mid a k).op [(e0, a.m, e1)] _ _ rfl rfl rfl hTC.op hmade.r (by rw [hLK]; simp only [List.length_cons, List.length_nil]; omega) (by simp; omega) ?_
              intro v5 w5 hO5 hG5
              obtain ⟨a5', c5', rfl⟩ := hO5.form
              obtain ⟨N5', hN5'⟩ : ∃ n, ((t.mid a k).op ++ [(e0, a.m, e1)]).length = n := ⟨_, rfl⟩
              rw [hN5'] at hO5 hG5 ⊢
              replace hN5' := Lib.hid hN5'
              refine hK _ _ rfl (Free.KeepsP.of hG5.keepsO (fun b hb => .inl ⟨rfl, by simpa using hb⟩)) ?_
              clear hK K
              have hqok : qOk (e0, a.m, e1) := ⟨hxok.out.1, ha.q.1, hxok.out.2.1⟩
              have hnm : (e0, a.m, e1) ∉ (t.mid a k).op := by simpa using hib.out
              obtain ⟨hTD, hkD, _, _⟩ := hTC.setOpen hG5 hO5 hqok hnm
              have hmvD := hmvC.trans (hTC.mvOpen hG5 hO5 hqok hnm)
              have hTD' : TrM (w5.setCell ⟨bt, 5, none⟩ (.slice a5' N5' c5')) B bt bm (.slice a5' N5' c5') (.slice a5 N5 q5) vg (t.mid a (k + 1)) := by
                rw [Tr.mid_new t a k hki.out (by rw [hxx.out]; exact hnm)]
                simp only [hxx.out]
                exact hTD
              have hb5 := (hG5.keepsO.block bt hTC.lt.1 (by simpa using hTC.ne_bt.2.1)).trans hTC.blk
              have hlt5 := lt_of_blk hb5
              have c55 : ∃ u, w5.cell? ⟨bt, 5, none⟩ = some u := by rw [World.cell?, hb5]; exact ⟨_, rfl⟩
              have c5f : ∀ o, w5.frozen? ⟨bt, o, none⟩ = false := fun o => by simp [World.frozen?, hb5]
              obtain ⟨u55, c55⟩ := c55
              replace hTD' := Lib.hid hTD'
              replace hkD := Lib.hid hkD
              replace hmvD := Lib.hid hmvD
              clear hO5 hG5 hmade hTC hmvC hTD hb5 hkC hnm hqok hTB hmvB
              (repeat (apply Free.cw_pure rfl rfl; (intro w'; go_simp <;> exact rfl); go_frame))
              refine Free.cw_loud rfl rfl (fun K hK => ?_)
              go_wp2
              refine hK _ _ rfl (Free.KeepsP.of hkD.out (fun b hb => .inr ⟨trivial, by simpa using hb⟩)) ?_
              clear hK K
              refine Free.cw_nil ?_
              go_wp2
              go_roundw
              case rel => exact ⟨k + 1, rfl, by omega, _, hTD', hmvD⟩
              case measure => simp [intOf]; omega
          · have hkx : k = x8 := by omega
            subst hkx
            obtain ⟨Rr, hRr, hRLr⟩ := hTr.out.mp
            have hlenm := fun (w' : World) (hb : w'.heap[bm]? = wr.heap[bm]?) => MapS.M.len ktQ Try.underlying81 (hRr.at' hb) 3
            obtain ⟨NR, hNR⟩ : ∃ n, Rr.length = n := ⟨_, rfl⟩
            rw [hNR] at hlenm
            have hdec : NR = LK ↔ allQ (t.mid a k).qs = true := by
              rw [← hNR, hRLr.1, ← (rec_len (t.mid a k).qs).2, ← hLK]
              simp [Tr.op, Tr.rec']
            have hmid : t.mid a k = (t.take a).put a := by rw [hx8.out]; exact Tr.mid_all t a
            replace hlenm := Lib.hid hlenm
            replace hdec := Lib.hid hdec
            replace hmid := Lib.hid hmid
            have d5 := hTr.out.cells.2.2.2.2.2.1
            have d7 := hTr.out.cells.2.2.2.2.2.2.2.1
            have d9 := hTr.out.cells.2.2.2.2.2.2.2.2.2.1
            have hltr := hTr.out.lt
            have hfrr := hTr.out.free
            clear hRr hRLr
            go_wp2
            refine Free.wp_region_chain (fun i => false) (fun i => true) (fun _ _ => False) (by kernel_rfl) (by kernel_rfl) (by kernel_rfl) ?_
            (repeat (first | (apply Free.cw_pure rfl rfl; (intro w'; go_simp <;> exact rfl); go_frame) | (apply Free.cw_steady rfl rfl rfl; (intro w' hS; have q0 := Free.sx_cell hS d5 (fun _ _ hT => hT); have q1 := Free.sx_cell hS d7 (fun _ _ hT => hT); have q2 := hlenm.out w' (hS.block bm hltr.2 (fun ⟨_, _, _, hT⟩ => hT)); go_simp <;> exact rfl); go_frame)))
            refine Free.cw_nil ?_
            obtain ⟨al, hal⟩ : ∃ b, allQ (t.mid a k).qs = b := ⟨_, rfl⟩
            have hbe : ((NR : Int) == (LK : Int)) = al := by
              rw [← hal]
              have h1 := hdec.out
              cases hq : allQ (t.mid a k).qs with
              | true => have := h1.2 hq; simp [this]
              | false => 
                have h2 : ¬ NR = LK := fun e => by rw [h1.1 e] at hq; cases hq
                simp; omega
            have hTd := hTr.out.keeps ((Keeps.refl [] wr).drew)
            have hmvd := (Mv.nil hk03.out).trans (hmvr.out.trans (.nil ((Keeps.refl [] wr).drew)))
            replace hTd := Lib.hid hTd
            replace hmvd := Lib.hid hmvd
            cases al with
            | true =>
              go_wp2
              go_ret
              rw [hr.out, ← hmid.out, show (t.mid a k).close = { t.mid a k with state := 1 } from if_pos hal]
              exact ⟨_, _, rfl, hTd.out.setState 1, hmvd.out.trans (hTd.out.mvSet 9 _)⟩
            | false =>
              go_wp2
              go_ret
              rw [hr.out, ← hmid.out, show (t.mid a k).close = t.mid a k from if_neg (by rw [hal]; decide)]
              exact ⟨_, _, rfl, hTd.out, hmvd.out⟩
end Go.Proofs.Ythfdngjbcgkkfaa

namespace Go.Proofs.Ythfdngjbcgkkfaa
open Go.RowKit

/-- What a question asks. -/
def askOf (p : Qn × Option Ans) : Option T3 := if p.2.isSome then none else some (p.1.1, p.1.2.2, p.1.2.1)
def Tr.queries (t : Tr) : Tr × List T3 := if t.state ≠ 0 then (t, []) else ({ t with told := t.qs.length }, (t.qs.drop t.told.toNat).filterMap askOf)
def QsPost (w : World) (B bt bm : Nat) (vo vh vg : Value) (r : Tr × List T3) (e : Ending) (w' : World) : Prop :=
  ∃ v, e = .returned v ∧ shT.O w' w.heap.size tN v r.2 ∧ TrM w' B bt bm vo vh vg r.1 ∧ Mv (ownT bt bm vo vh vg) (ownT bt bm vo vh vg) w w'
theorem ask_step (l : List (Qn × Option Ans)) (k : Nat) (hk : k < l.length) : (l.take (k + 1)).filterMap askOf = (l.take k).filterMap askOf ++ (askOf l[k]).toList := by
  rw [List.take_succ_eq_append_getElem hk, List.filterMap_append]
  cases h : askOf l[k] <;> simp [h]
theorem LR.some {w : World} {R : List (Qn × AnV)} {t : Tr} {q : Qn} {u : Option Ans} (h : LR w R t.rec') (hnd : t.op.Nodup) (hm : (q, u) ∈ t.qs) : (MapS.get q R).isSome = u.isSome := by
  rcases h.2 q with ⟨h1, h2⟩ | ⟨x, y, h1, h2, _⟩
  · rw [h1]
    cases u with
    | none => rfl
    | some b => rw [show MapS.get q t.rec' = _ from (get_rec hnd q b).2 hm] at h2; cases h2
  · rw [h1]
    have := nd_val hnd ((get_rec hnd q y).1 h2) hm
    rw [← this]; rfl
set_option maxRecDepth 100000 in
set_option maxHeartbeats 10000000 in
theorem queries_c (w : World) (B bt bm : Nat) (vo vh vg : Value) (t : Tr) (tn : Nat) (h : TrM w B bt bm vo vh vg t) (ht : t.told = tn) (htn : tn ≤ t.qs.length) (hl : t.qs.length ≤ 100000) :
    Calls Try.prog 30 #[.pointer (some ⟨bt, 0, none⟩)] w (QsPost w B bt bm vo vh vg t.queries) := by
  obtain ⟨ao, co, rfl⟩ := h.op.form
  obtain ⟨LO, hLO⟩ : ∃ n, t.op.length = n := ⟨_, rfl⟩
  have hLO2 : t.qs.length = LO := by rw [← hLO]; simp [Tr.op]
  rw [hLO] at h ⊢
  rw [hLO2] at htn hl
  replace hLO := Lib.hid hLO
  replace hLO2 := Lib.hid hLO2
  obtain ⟨c0, c1, c2, c3, c4, c5, c6, c7, c8, c9, c10, c11⟩ := h.cells
  have hlt := h.lt
  by_cases hs : t.state = 0
  case neg =>
    have hs1 : (t.state != 0) = true := by simpa using hs
    have hr : t.queries = (t, []) := by unfold Tr.queries; rw [if_pos hs]
    rw [hr]
    replace hs := Lib.hid hs
    replace hr := Lib.hid hr
    replace h := Lib.hid h
    clear c0 c1 c2 c3 c4 c5 c6 c7 c8 c10 c11
    go_enter Try.func30, Try.ntmps30
    go_wp2
    go_ret
    exact ⟨_, rfl, Sh.O.nil _ _ _ _, h.out, .nil (Keeps.refl _ _)⟩
  case pos =>
    have hr : t.queries = ({ t with told := LO }, (t.qs.drop tn).filterMap askOf) := by unfold Tr.queries; rw [if_neg (by simp [hs]), hLO2.out, ht]; rfl
    rw [hr]
    rw [hs] at c9
    rw [ht] at c6
    have hT := h.op.r.tail' tn (by rw [hLO.out]; exact htn)
    have hfr := h.free
    replace hr := Lib.hid hr
    replace h := Lib.hid h
    replace hs := Lib.hid hs
    replace ht := Lib.hid ht
    replace hT := Lib.hid hT
    clear c0 c1 c2 c3 c4 c8 c10 c11
    go_enter Try.func30, Try.ntmps30
    go_wp2
    refine Free.wp_region_chain (fun i => false) (fun i => true) (fun _ _ => False) (by kernel_rfl) (by kernel_rfl) (by kernel_rfl) ?_
    (repeat (first | (apply Free.cw_pure rfl rfl; (intro w'; go_simp <;> exact rfl); go_frame) | (apply Free.cw_steady rfl rfl rfl; (intro w' hS; have q0 := Free.sx_cell hS c5 (fun _ _ hT => hT); have q1 := Free.sx_cell hS c6 (fun _ _ hT => hT); go_simp <;> exact rfl); go_frame) | (refine Free.cw_skip rfl ?_; go_frame)))
    refine Free.cw_nil ?_
    obtain ⟨sa, hsa⟩ : ∃ sa, (if co = tn then ao else Option.map (fun x => x.add (tn * 3)) ao) = sa := ⟨_, rfl⟩
    replace hT : shQ.R w (.slice sa (LO - tn) (co - tn)) (t.op.drop tn) := by rw [← hLO.out, ← hsa]; exact hT.out
    replace hT := Lib.hid hT
    rw [hsa]
    clear hsa
    obtain ⟨M, hM⟩ : ∃ M, LO - tn = M := ⟨_, rfl⟩
    rw [hM] at hT ⊢
    obtain ⟨scap, hsc⟩ : ∃ M, co - tn = M := ⟨_, rfl⟩
    rw [hsc] at hT ⊢
    have hD : (t.qs.drop tn).length = M := by rw [List.length_drop, hLO2.out]; exact hM
    have hMl : M ≤ 100000 := by omega
    obtain ⟨R, hR, hRL⟩ := h.out.mp
    have hlook := fun (w' : World) (hb : w'.heap[bm]? = w.heap[bm]?) (q : Qn) (hq : qOk q) => MapS.M.look_ok ktQ (k := q) Try.underlying81 (aV .zero) zeroA (hR.at' hb) hq
    have hsome := fun (q : Qn) (u : Option Ans) (hm : (q, u) ∈ t.qs) => hRL.some h.out.inv.nd hm
    replace hlook := Lib.hid hlook
    replace hsome := Lib.hid hsome
    replace hD := Lib.hid hD
    clear hsc hRL hR
    go_wp2
    go_loopw [24, 3] (fun i ov wr => ∃ k : Nat, i = .int .i64 k ∧ k ≤ M ∧ shT.O wr w.heap.size tN ov (((t.qs.drop tn).take k).filterMap askOf) ∧ Keeps [] w wr) (fun i _ _ => M - (intOf i).toNat)
    case atStart => exact ⟨0, rfl, by omega, Sh.O.nil _ _ _ _, (Keeps.refl _ _).drew⟩
    case round =>
      obtain ⟨k, rfl, hk, hO, hkw⟩ := hrel
      obtain ⟨oa, oc, rfl⟩ := hO.form
      obtain ⟨NN, hNN⟩ : ∃ n, (((t.qs.drop tn).take k).filterMap askOf).length = n := ⟨_, rfl⟩
      have hNk : NN ≤ k := by rw [← hNN]; exact Nat.le_trans (List.length_filterMap_le _ _) (by simp; omega)
      rw [hNN] at hO ⊢
      by_cases hlt2 : k < M
      · have hki : k < (t.qs.drop tn).length := by rw [hD.out]; exact hlt2
        have hki2 : k < (t.op.drop tn).length := by rw [Tr.op, ← List.map_drop, List.length_map]; exact hki
        obtain ⟨⟨qq, uu⟩, hqq⟩ : ∃ p, (t.qs.drop tn)[k] = p := ⟨_, rfl⟩
        have hq2 : (t.op.drop tn)[k] = qq := by simp only [Tr.op, ← List.map_drop, List.getElem_map]; rw [hqq]
        have hmem : (qq, uu) ∈ t.qs := List.mem_of_mem_drop (hqq ▸ List.getElem_mem hki)
        have hqok : qOk qq := h.out.inv.ok qq (List.mem_map.2 ⟨_, hmem, rfl⟩)
        have hst := ask_step (t.qs.drop tn) k hki
        rw [hqq] at hst
        obtain ⟨g, o, c', hv, he⟩ := (hT.out.keeps hkw).elem hki2
        rw [hq2] at he
        rw [show (t.op.drop tn).length = M by rw [List.length_drop, hLO.out]; exact hM] at hv
        cases hv
        have hsm := hsome.out qq uu hmem
        have hlk := fun (w' : World) (hb : w'.heap[bm]? = w.heap[bm]?) => hlook.out w' hb qq hqok
        rw [hsm] at hlk
        obtain ⟨xv, hxv⟩ : ∃ xv : AnV, ((MapS.get qq R).map aV).getD (aV .zero) = aV xv := by
          cases MapS.get qq R with
          | none => exact ⟨_, rfl⟩
          | some u => exact ⟨u, rfl⟩
        rw [hxv] at hlk
        obtain ⟨v0, v1, v2, v3, v4, v5, v6, v7, v8, v9⟩ := xv
        obtain ⟨q0, q1, q2⟩ := qq
        have f0 := he 0 _ rfl
        have f1 := he 1 _ rfl
        have f2 := he 2 _ rfl
        simp only [shQ, Nat.add_zero] at f0 f1 f2
        simp only [ktQ, qV, aV, AnV.v] at hlk
        obtain ⟨ub, hub⟩ : ∃ b, uu.isSome = b := ⟨_, rfl⟩
        rw [hub] at hlk
        have d7 := hkw.val c7
        have hbm2 := hkw.block bm hlt.2 (by simp)
        have hwz := hkw.size
        replace hO := Lib.hid hO
        replace hkw := Lib.hid hkw
        replace hlk := Lib.hid hlk
        replace hst := Lib.hid hst
        replace hxv := Lib.hid hxv
        replace hub := Lib.hid hub
        replace hNN := Lib.hid hNN
        clear he hmem hqok hki hki2 hq2 hqq hsm
        go_wp2
        have hkA : Keeps [] wr (wr.alloc (.cells #[.int .i64 q0, .int .i64 q1, .int .u64 q2] tQ)) := (Keeps.refl _ _).alloc _
        have hbA := heap_alloc_new wr (.cells #[.int .i64 q0, .int .i64 q1, .int .u64 q2] tQ)
        have hzA : (wr.alloc (.cells #[.int .i64 q0, .int .i64 q1, .int .u64 q2] tQ)).heap.size = wr.heap.size + 1 := by simp
        generalize (wr.alloc (.cells #[.int .i64 q0, .int .i64 q1, .int .u64 q2] tQ)) = WA at *
        have hOA := hO.out.keeps hkA
        have hkwA := hkw.out.trans hkA
        have d7 := hkwA.val c7
        obtain ⟨r0, r1, r2⟩ := cells3t hbA
        have hbmA := (hkA.block bm (by omega) (by simp)).trans hbm2
        have hlkA := fun (w' : World) hb => hlk.out w' (Eq.trans hb hbmA)
        obtain ⟨XA, hXA⟩ : ∃ X, wr.heap.size = X := ⟨_, rfl⟩
        rw [hXA] at hzA hbA r0 r1 r2 hwz ⊢
        replace hOA := Lib.hid hOA
        replace hkwA := Lib.hid hkwA
        replace hbA := Lib.hid hbA
        replace hlkA := Lib.hid hlkA
        have hltA : bm < WA.heap.size := by omega
        clear hO hkw hkA hlk hbm2 f0 f1 f2 hbmA
        refine Free.wp_region_chain (fun i => i == 9 || i == 10) (fun i => true) (fun j b => j = 10 ∧ WA.heap.size ≤ b) (by kernel_rfl) (by kernel_rfl) (by kernel_rfl) ?_
        (repeat (first | (apply Free.cw_pure rfl rfl; (intro w'; go_simp <;> exact rfl); go_frame) | (apply Free.cw_steady rfl rfl rfl; (intro w' hS2; have z0 := Free.sx_cell hS2 d7 (fun _ _ hT => by omega); have z1 := Free.sx_cell hS2 r0 (fun _ _ hT => by omega); have z2 := Free.sx_cell hS2 r1 (fun _ _ hT => by omega); have z3 := Free.sx_cell hS2 r2 (fun _ _ hT => by omega); have z5 := hlkA.out w' (hS2.block bm hltA (fun ⟨_, _, _, hT⟩ => by omega)); go_simp <;> exact rfl); go_frame)))
        refine Free.cw_loud rfl rfl (fun K hK => ?_)
        go_wp2
        refine hK _ _ rfl (Free.KeepsP.alloc _ _ _) ?_
        clear hK K
        (repeat (apply Free.cw_pure rfl rfl; (intro w'; go_simp <;> exact rfl); go_frame))
        refine Free.cw_loud rfl rfl (fun K hK => ?_)
        go_wp2
        refine hK _ _ rfl (keepsP_remade (S := fun b => True ∧ WA.heap.size ≤ b) WA _ _ ⟨trivial, Nat.le_refl _⟩).drews ?_
        clear hK K
        (repeat (apply Free.cw_pure rfl rfl; (intro w'; go_simp <;> exact rfl); go_frame))
        refine Free.cw_nil ?_
        have hkB : Keeps [] WA ((WA.alloc (.cells #[.int .i64 v0, .int .i64 v1, .int .u64 v2, .int .i64 v3, .bool v4, .bool v5, .int .i64 v6, .slice v7 v8 v9] tA)).drew) := ((Keeps.refl _ _).alloc _).drew
        have hbB := (hkB.block XA (by omega) (by simp)).trans hbA.out
        obtain ⟨r0, r1, r2⟩ := cells3t hbB
        have hOB := hOA.out.keeps hkB
        have hkwB := hkwA.out.trans hkB
        generalize ((WA.alloc (.cells #[.int .i64 v0, .int .i64 v1, .int .u64 v2, .int .i64 v3, .bool v4, .bool v5, .int .i64 v6, .slice v7 v8 v9] tA)).drew) = WB at *
        clear hOA hkwA hbA hkB hbB hlkA
        cases ub with
        | true =>
          have hnone : askOf ((q0, q1, q2), uu) = none := by unfold askOf; rw [if_pos hub.out]
          rw [hnone, Option.toList_none, List.append_nil] at hst
          replace hst := Lib.hid hst.out
          rw [← hst.out] at hOB
          replace hOB := Lib.hid hOB
          replace hkwB := Lib.hid hkwB
          go_wp2
          go_roundw
          case rel => exact ⟨k + 1, rfl, by omega, hOB.out, hkwB.out⟩
          case measure => simp [intOf]; omega
        | false =>
          have hnone : askOf ((q0, q1, q2), uu) = some (q0, q2, q1) := by unfold askOf; rw [if_neg (by simp [hub.out])]
          rw [hnone, Option.toList_some] at hst
          replace hst := Lib.hid hst.out
          have hmade := Sh.O.one shT WB (q0, q2, q1) #[.int .i64 q0, .int .u64 q2, .int .i64 q1] tN 0 rfl (by omega)
          have hkC := (Keeps.refl [] WB).alloc (.cells #[.int .i64 q0, .int .u64 q2, .int .i64 q1] tN)
          have hOC := hOB.keeps hkC
          have hkwC := hkwB.trans hkC
          have hwC := hkwB.size
          replace hmade := Lib.hid hmade
          replace hOC := Lib.hid hOC
          replace hkwC := Lib.hid hkwC
          clear hOB hkwB hkC
          go_wp2_with (at_builtin; go_loud (refine Sh.wpl_app shT w.heap.size infoN rfl Try.underlying42 (.slice oa NN oc) (.slice (some ⟨WB.heap.size, 0, none⟩) 1 1) _ [(q0, q2, q1)] rfl _ _ rfl rfl rfl hOC.out hmade.out.r (by rw [hNN.out]; simp; omega) (by simp; omega) ?_; intro v5 w5 hO5 hG5; have hk5 := Sh.O.grew hkwC.out hOC.out hG5 (Nat.le_refl _); rw [← hst.out] at hO5; replace hO5 := Lib.hid hO5; replace hk5 := Lib.hid hk5; clear hG5))
          go_roundw
          case rel => exact ⟨k + 1, rfl, by omega, hO5.out, hk5.out⟩
          case measure => simp [intOf]; omega
      · have hkM : k = M := by omega
        subst hkM
        rw [List.take_of_length_le (by rw [hD.out]; omega)] at hO
        have hTr := h.out.keeps hkw
        have d5 := hTr.cells.2.2.2.2.2.1
        have hfrr := hTr.free
        have d6 := hTr.cells.2.2.2.2.2.2.1
        have hltr := hTr.lt
        have hne : ∀ b, (Value.slice oa NN oc).ownBlock = some b → b ≠ bt := fun b hb e => by
          subst e
          obtain ⟨cs, hc⟩ := hO.tag _ hb
          exact tag_ne hTr.blk hc (by decide) rfl
        replace hTr := Lib.hid hTr
        replace hO := Lib.hid hO
        replace hkw := Lib.hid hkw
        replace hne := Lib.hid hne
        go_wp2
        go_ret
        have hTf := hTr.out.setTold (LO : Int)
        obtain ⟨hkf, _⟩ := Keeps.setT (o := 6) hTr.out.blk (.int .i64 (LO : Int))
        exact ⟨.slice oa NN oc, rfl, hO.out.keepS hkf (fun b hb e => by simp at hb; exact hne.out b e hb), hTf, (Mv.nil hkw.out).trans (hTr.out.mvSet 6 _)⟩
end Go.Proofs.Ythfdngjbcgkkfaa

namespace Go.Proofs.Ythfdngjbcgkkfaa
open Go.RowKit Go
namespace MapS
variable {P : Program} {kt : TypeId} {κ : Type} [DecidableEq κ] {α : Type} {K : KT P kt κ} {vf : α → Value} {w w' : World} {b r : Nat} {L R : Es κ α}
theorem Rg.lt (h : Rg K vf w b r L R) : b < w.heap.size ∧ r < w.heap.size ∧ r ≠ b := by
  obtain ⟨⟨n, D, left, cnt, hr, _⟩, _⟩ := h
  exact ⟨hr.owns.lt, hr.lt, hr.ne⟩
theorem Rg.kept {S : List Nat} (h : Rg K vf w b r L R) (hk : Keeps S w w') (hb : b ∉ S) (hr : r ∉ S) : Rg K vf w' b r L R := by
  obtain ⟨hl1, hl2, _⟩ := h.lt
  obtain ⟨⟨n, D, left, cnt, ⟨es, clock, since, seen, c0, e1, F, hs, hD, e2, rest⟩, hR⟩, h2, h3, h4, h5⟩ := h
  exact ⟨⟨n, D, left, cnt, ⟨es, clock, since, seen, c0, (hk.block b hl1 hb).trans e1, F, hs, hD, (hk.block r hl2 hr).trans e2, rest⟩, hR⟩, h2, h3, h4, h5⟩
theorem Rg.keeps (h : Rg K vf w b r L R) (hk : Keeps [] w w') : Rg K vf w' b r L R := h.kept hk (by simp) (by simp)
theorem del_self {x : κ} : ∀ {L : Es κ α}, x ∉ L.map (·.1) → del x L = L := fun {L} h => List.filter_eq_self.2 (fun p hp => by
  have : p.1 ≠ x := fun e => h (List.mem_map.2 ⟨p, hp, e⟩)
  simp [this])
theorem perm_del {x : κ} {u : α} : ∀ {L : Es κ α}, ND L → (x, u) ∈ L → L.Perm ((x, u) :: del x L)
  | [], _, h => by simp at h
  | q :: s, hn, hm => by
    obtain ⟨n1, n2⟩ := List.nodup_cons.1 hn
    rcases List.mem_cons.1 hm with rfl | hm
    · have : del x ((x, u) :: s) = s := by
        have hs := del_self (x := x) (L := s) n1
        unfold del at hs ⊢
        rw [List.filter_cons_of_neg (by simp)]; exact hs
      rw [this]
    · have hqx : q.1 ≠ x := fun e => n1 (List.mem_map.2 ⟨(x, u), hm, e.symm⟩)
      have : del x (q :: s) = q :: del x s := by unfold del; rw [List.filter_cons_of_pos (by simp [hqx])]
      rw [this]
      exact ((perm_del n2 hm).cons q).trans (List.Perm.swap _ _ _)
end MapS
end Go.Proofs.Ythfdngjbcgkkfaa

namespace Go.Proofs.Ythfdngjbcgkkfaa
open Go.RowKit

/-- What is still to come of the recorded answers. -/
theorem LR.next {w : World} {R R' : List (Qn × AnV)} {Y : List (Qn × Ans)} {x : Qn} {u : AnV} (h : LR w R Y) (hn : MapS.ND R) (hY : MapS.ND Y) (hm : (x, u) ∈ R) (hp : R.Perm ((x, u) :: R')) :
    ∃ y, InA w u y ∧ Y.Perm ((x, y) :: MapS.del x Y) ∧ LR w R' (MapS.del x Y) ∧ MapS.ND (MapS.del x Y) := by
  have hgx := MapS.get_of_mem hn hm
  rcases h.2 x with ⟨h1, _⟩ | ⟨u', y, h1, h2, h3⟩
  · rw [hgx] at h1; cases h1
  · rw [hgx] at h1
    cases h1
    have hpy := MapS.perm_del hY (MapS.get_mem h2)
    refine ⟨y, h3, hpy, ⟨?_, fun q => ?_⟩, MapS.nd_del hY⟩
    · have e1 := hp.length_eq
      have e2 := hpy.length_eq
      have e3 := h.1
      simp at e1 e2; omega
    · have hn' : MapS.ND ((x, u) :: R') := by
        have h1 : (R.map (fun p => p.1)).Nodup := hn
        exact (hp.map (fun p => p.1)).nodup_iff.1 h1
      have hg : MapS.get q R = MapS.get q ((x, u) :: R') := MapS.get_perm hn' hp.symm
      have hnx : MapS.get x R' = none := MapS.get_none.2 (fun p hp e => (List.nodup_cons.1 hn').1 (List.mem_map.2 ⟨p, hp, e⟩))
      rw [MapS.get_del]
      by_cases e : q = x
      · subst e
        exact .inl ⟨hnx, by rw [if_pos rfl]⟩
      · rw [if_neg e]
        have : MapS.get q R' = MapS.get q R := by
          rw [hg]
          have e' : ¬ x = q := fun h => e h.symm
          simp [MapS.get, e']
        rw [this]
        exact h.2 q
/-- A sorted list of answers is the only one. -/
theorem sortedA_uniq : ∀ {Y Z : List Ans}, Y.Perm Z → Y.Pairwise (fun x y => qlt x.q y.q) → Z.Pairwise (fun x y => qlt x.q y.q) → Y = Z
  | [], Z, hp, _, _ => by simpa using hp.symm
  | y :: Y, [], hp, _, _ => by simp at hp
  | y :: Y, z :: Z, hp, h1, h2 => by
    have e : y = z := by
      obtain ⟨a1, _⟩ := List.pairwise_cons.1 h1
      obtain ⟨b1, _⟩ := List.pairwise_cons.1 h2
      have hy : y ∈ z :: Z := hp.mem_iff.1 (by simp)
      have hz : z ∈ y :: Y := hp.mem_iff.2 (by simp)
      rcases List.mem_cons.1 hy with e | hy
      · exact e
      · rcases List.mem_cons.1 hz with e | hz
        · exact e.symm
        · exact absurd (qlt_trans (a1 z hz) (b1 y hy)) (qlt_irrefl _)
    subst e
    rw [sortedA_uniq (List.perm_cons _ |>.1 hp) (List.pairwise_cons.1 h1).2 (List.pairwise_cons.1 h2).2]
/-- The recorded answers in their order. -/
def SortedA (t : Tr) (Y : List Ans) : Prop := Y.Perm (t.rec'.map (·.2)) ∧ Y.Pairwise (fun x y => qlt x.q y.q)
theorem SortedA.uniq {t : Tr} {Y Z : List Ans} (h : SortedA t Y) (h2 : SortedA t Z) : Y = Z := sortedA_uniq (h.1.trans h2.1.symm) h.2 h2.2
/-- The order of cells and of answers. -/
theorem LA.perm {w : World} {X X' : List AnV} {Y : List Ans} (h : LA w X Y) (hp : X'.Perm X) : ∃ Y', Y'.Perm Y ∧ LA w X' Y' := by
  induction hp generalizing Y with
  | nil => exact ⟨Y, List.Perm.refl _, h⟩
  | @cons x l1 l2 hp ih =>
    cases Y with
    | nil => have := h.1; simp at this
    | cons y Y =>
      have h0 := h.2 0 x y rfl rfl
      obtain ⟨Y', p, hl⟩ := ih (Y := Y) ⟨by have := h.1; simpa using this, fun k a b ha hb => h.2 (k + 1) a b (by simpa using ha) (by simpa using hb)⟩
      refine ⟨y :: Y', p.cons y, by simp [hl.1], fun k a b ha hb => ?_⟩
      cases k with
      | zero => simp at ha hb; subst ha hb; exact h0
      | succ k => exact hl.2 k a b (by simpa using ha) (by simpa using hb)
  | @swap x y l =>
    match Y, h with
    | [], h => have := h.1; simp at this
    | [_], h => have := h.1; simp at this
    | a :: b :: Y, h =>
      have h0 := h.2 0 _ _ rfl rfl
      have h1 := h.2 1 _ _ rfl rfl
      refine ⟨b :: a :: Y, List.Perm.swap _ _ _, by have := h.1; simpa using this, fun k u v hu hv => ?_⟩
      match k with
      | 0 => simp at hu hv; subst hu hv; exact h1
      | 1 => simp at hu hv; subst hu hv; exact h0
      | k + 2 => exact h.2 (k + 2) u v (by simpa using hu) (by simpa using hv)
  | trans p1 p2 ih1 ih2 =>
    obtain ⟨Y1, q1, h1⟩ := ih2 h
    obtain ⟨Y2, q2, h2⟩ := ih1 h1
    exact ⟨Y2, q2.trans q1, h2⟩
theorem LA.keys {w : World} {X : List AnV} {Y : List Ans} (h : LA w X Y) : X.map AnV.q = Y.map Ans.q := by
  refine List.ext_getElem (by simp [h.1]) (fun k h1 h2 => ?_)
  simp only [List.getElem_map]
  exact (h.2 k _ _ (List.getElem?_eq_getElem _) (List.getElem?_eq_getElem _)).q
set_option maxRecDepth 100000 in
set_option maxHeartbeats 10000000 in
theorem answers_c (w : World) (B bt bm : Nat) (vo vh vg : Value) (t : Tr) (h : TrM w B bt bm vo vh vg t) (hl : t.qs.length ≤ 100000) :
    Calls Try.prog 43 #[.pointer (some ⟨bt, 0, none⟩)] w fun e w' => ∃ v X Y, e = .returned v ∧ shA.O w' w.heap.size tA v X ∧ LA w' X Y ∧ SortedA t Y ∧ Keeps [] w w' := by
  obtain ⟨R, hR, hRL⟩ := h.mp
  have hrl := (rec_len t.qs).1
  have hnd := recOf_nd h.inv.nd
  have hro := h.inv.ro
  have hrq := h.inv.rq
  have c7 := h.cells.2.2.2.2.2.2.2.1
  have hlt := h.lt
  have hRlen : R.length ≤ 100000 := by have := hRL.1; simp only [Tr.rec'] at this; omega
  replace hR := Lib.hid hR
  replace hRL := Lib.hid hRL
  replace hnd := Lib.hid hnd
  replace hro := Lib.hid hro
  replace hrq := Lib.hid hrq
  clear h
  go_enter Try.func43, Try.ntmps43
  go_wp2_with (at_range; refine MapS.wpl_range ktQ rfl _ rfl Try.underlying81 rfl hR.out ?_; intro w1 hrg1 hg1 hs1)
  have hk1 : Keeps [] w w1 := (Keeps.refl [] w).grown hg1 (by simp)
  have hRL1 := hRL.out.ki hk1.ki0
  have hns : (t.rec'.map (fun p => p.1)).Nodup := hnd.out
  replace hrg1 := Lib.hid hrg1
  replace hk1 := Lib.hid hk1
  replace hRL1 := Lib.hid hRL1
  replace hns := Lib.hid hns
  clear hR hRL hg1
  go_frame
  go_loopg [3] R.length (fun n ov wr => ∃ (rs : List (Qn × AnV)) (Yd Yr : List (Qn × Ans)) (X : List AnV), n = rs.length ∧ Hid (MapS.Rg ktQ aV wr bm w.heap.size R rs) ∧ Hid (LR wr rs Yr) ∧ Hid (MapS.ND Yr) ∧ Hid ((Yd ++ Yr).Perm t.rec') ∧ Hid (shA.O wr w.heap.size tA ov X) ∧ Hid (LA wr X (Yd.map (·.2))) ∧ Hid (Keeps [] w wr))
  case atStart => exact ⟨R, [], t.rec', [], rfl, hrg1, hRL1, hnd, by simp [Hid], Sh.O.nil _ _ _ _, LA.nil _, hk1⟩
  case round =>
    obtain ⟨rs, Yd, Yr, X, rfl, hrg, hLR, hNr, hP, hO, hLA, hkw⟩ := hrel
    obtain ⟨oa, oc, rfl⟩ := hO.out.form
    obtain ⟨NN, hNN⟩ : ∃ n, X.length = n := ⟨_, rfl⟩
    have hNl : NN ≤ 100000 := by
      have h1 := hP.out.length_eq
      have h2 := hLA.out.1
      have h3 : t.rec'.length = (recOf t.qs).length := rfl
      simp at h1 h2; omega
    rw [hNN] at hO ⊢
    replace hNN := Lib.hid hNN
    go_wp2_with (at_next; refine MapS.wpl_next ktQ rfl _ rfl rfl hrg.out ?_ ?_)
    case _ =>
      intro hrs
      subst hrs
      have hYr : Yr = [] := by have := hLR.out.1; simpa [eq_comm] using this
      subst hYr
      have hP2 : Yd.Perm t.rec' := by simpa using hP.out
      have hsort := sortA_c wr w.heap.size _ X hO.out (by rw [hNN.out]; omega)
      replace hsort := Lib.hid hsort
      replace hP2 := Lib.hid hP2
      clear hP hrg hLR hNr
      go_wp2_with fail
      refine hsort.out.mono ?_
      rintro e w2 ⟨rfl, X', hp, hpw, hO2, hk2⟩
      have hk2' : Keeps [] w w2 := hkw.out.fresh hk2 (fun b hb => .inr (hO.out.ge b (by simpa using hb)))
      have hi2 : KI wr w2 := hk2.ki (fun b hb cs f e => by
        obtain ⟨cs', hc⟩ := hO.out.tag b (by simpa using hb)
        exact tag_ne hc e (by decide) rfl)
      obtain ⟨Y', hpy, hL2⟩ := (hLA.out.ki hi2).perm hp
      have hPY : Y'.Perm (t.rec'.map (·.2)) := hpy.trans (hP2.out.map _)
      have hkeys : (t.rec'.map (·.2)).map Ans.q = t.rec'.map (fun p => p.1) := by
        rw [List.map_map]
        exact List.map_congr_left (fun p hp => hrq.out p hp)
      have hnY : (Y'.map Ans.q).Nodup := by
        have := (hPY.map Ans.q)
        rw [hkeys] at this
        exact this.nodup_iff.2 hns.out
      have hpY : (Y'.map Ans.q).Pairwise (fun x y => ¬ qlt y x) := by
        rw [← hL2.keys]
        exact List.pairwise_map.2 hpw
      have hstr : Y'.Pairwise (fun x y => qlt x.q y.q) := by
        have := List.Pairwise.and hpY hnY
        exact List.pairwise_map.1 (this.imp (fun {x y} h => by
          by_cases h2 : qlt x y
          · exact h2
          · exact absurd (qlt_total h2 h.1) h.2))
      have hfin : ∃ Xa Ya, shA.O w2 w.heap.size tA (.slice oa NN oc) Xa ∧ LA w2 Xa Ya ∧ SortedA t Ya ∧ Keeps [] w w2 := ⟨X', Y', hO2, hL2, ⟨hPY, hstr⟩, hk2'⟩
      replace hfin := Lib.hid hfin
      clear hpw hO2 hk2 hk2' hi2 hpy hL2 hPY hkeys hnY hpY hstr hp hsort hO hLA hkw
      go_wp2
      go_ret
      obtain ⟨Xa, Ya, f1, f2, f3, f4⟩ := hfin.out
      exact ⟨_, Xa, Ya, rfl, f1, f2, f3, f4⟩
    case _ =>
      intro x0 x1 x2 u R' w2 hok hgu hum hperm hrg2 hg2 hs2 hen
      have hns2 : MapS.ND rs := by obtain ⟨_, _, h3, _⟩ := hrg.out; exact h3
      obtain ⟨y, hxy, hpY, hLR2, hN2⟩ := hLR.out.next hns2 hNr.out hum hperm
      have hk2 : Keeps [] w w2 := hkw.out.grown hg2 (fun k e => by simp at e; subst e; exact .inl (Nat.le_refl _))
      have hk2r : Keeps [w.heap.size] wr w2 := Keeps.of_grown hg2
      have hi2 : KI wr w2 := hk2r.ki (fun b hb cs f e => by
        simp at hb; subst hb
        obtain ⟨⟨n, D, left, cnt, ⟨es, clock, since, seen, c0, e1, F, hs, hD, e2, rest⟩, hR⟩, _⟩ := hrg.out
        rw [e2] at e; cases e)
      have hO2 : shA.O w2 w.heap.size tA (.slice oa NN oc) X := hO.out.keepS hk2r (fun b hb e => by
        simp at hb; subst hb
        obtain ⟨cs, hc⟩ := hO.out.tag _ e
        obtain ⟨⟨n, D, left, cnt, ⟨es, clock, since, seen, c0, e1, F, hs, hD, e2, rest⟩, hR⟩, _⟩ := hrg.out
        rw [hc] at e2; cases e2)
      have hLA2 := hLA.out.ki hi2
      have hyo : y.Ok := by
        have : (( x0, x1, x2), y) ∈ t.rec' := hP.out.mem_iff.1 (List.mem_append_right _ (hpY.mem_iff.2 (by simp)))
        exact hro.out _ this
      have hxy2 := hxy.ki hi2
      have hLR3 := hLR2.ki hi2
      have hrl2 : R'.length < rs.length := by have := hperm.length_eq; simp at this; omega
      have hP3 : ((Yd ++ [((x0, x1, x2), y)]) ++ MapS.del (x0, x1, x2) Yr).Perm t.rec' := by
        rw [List.append_assoc]
        exact ((List.Perm.refl Yd).append hpY.symm).trans hP.out
      obtain ⟨u0, u1, u2, u3, u4, u5, u6, u7, u8, u9⟩ := u
      have hcop := fun (W : World) (hk : Keeps [] w2 W) => copied_c W ⟨u0, u1, u2, u3, u4, u5, u6, u7, u8, u9⟩ y.ins (hxy2.ins.r.keeps hk) (by have := hyo.len; omega)
      simp only [ktQ, qV, aV, AnV.v] at hen hcop
      replace hcop := Lib.hid hcop
      replace hxy2 := Lib.hid hxy2
      replace hLR3 := Lib.hid hLR3
      replace hP3 := Lib.hid hP3
      replace hN2 := Lib.hid hN2
      replace hrg2 := Lib.hid hrg2
      replace hO2 := Lib.hid hO2
      replace hLA2 := Lib.hid hLA2
      replace hk2 := Lib.hid hk2
      clear hg2 hk2r hi2 hxy hpY hLR2 hns2 hgu hum hok hyo hP hrg hLR hNr hO hLA hkw hperm
      go_wp2_with fail
      refine (hcop.out _ ((Keeps.refl [] _).alloc _)).mono ?_
      rintro e w3 ⟨⟨z0, z1, z2, z3, z4, z5, z6, z7, z8, z9⟩, rfl, f0, f1, f2, f3, f4, f5, f6, hIO, hk3⟩
      simp only at f0 f1 f2 f3 f4 f5 f6
      subst f0 f1 f2 f3 f4 f5 f6
      have hk23 : Keeps [] w2 w3 := ((Keeps.refl [] w2).alloc _).trans hk3
      have hO3 := (hO2.out.keeps hk23).keeps ((Keeps.refl [] w3).alloc (.cells #[.int .i64 z0, .int .i64 z1, .int .u64 z2, .int .i64 z3, .bool z4, .bool z5, .int .i64 z6, .slice z7 z8 z9] tA))
      have hk34 := hk23.trans ((Keeps.refl [] w3).alloc (.cells #[.int .i64 z0, .int .i64 z1, .int .u64 z2, .int .i64 z3, .bool z4, .bool z5, .int .i64 z6, .slice z7 z8 z9] tA))
      have hmade := Sh.O.one shA w3 (⟨z0, z1, z2, z3, z4, z5, z6, z7, z8, z9⟩ : AnV) #[.int .i64 z0, .int .i64 z1, .int .u64 z2, .int .i64 z3, .bool z4, .bool z5, .int .i64 z6, .slice z7 z8 z9] tA 0 rfl (by omega)
      have hwz := (hk2.out.trans hk34).size
      have hxy3 : InA w3 ⟨z0, z1, z2, z3, z4, z5, z6, z7, z8, z9⟩ y := ⟨hxy2.out.m, hxy2.out.ow, hxy2.out.n, hxy2.out.ep, hxy2.out.kn, hxy2.out.rt, hxy2.out.lu, hIO⟩
      simp only [AnV.v] at hIO
      replace hO3 := Lib.hid hO3
      replace hk34 := Lib.hid hk34
      replace hmade := Lib.hid hmade
      replace hxy3 := Lib.hid hxy3
      clear hO2 hcop hIO hk3 hk23 hxy2
      go_wp2_with (at_builtin; go_loud (refine Sh.wpl_app shA w.heap.size infoA rfl Try.underlying27 (.slice oa NN oc) (.slice (some ⟨w3.heap.size, 0, none⟩) 1 1) X [(⟨z0, z1, z2, z3, z4, z5, z6, z7, z8, z9⟩ : AnV)] rfl _ _ rfl rfl rfl hO3.out hmade.out.r (by rw [hNN.out]; simp; omega) (by simp at hwz; simp; omega) ?_; intro v5 w5 hO5 hG5; have hk45 := Sh.O.grew (hk2.out.trans hk34.out) hO3.out hG5 (Nat.le_refl _); have hGk := hG5.keepsO; clear hG5; replace hO5 := Lib.hid hO5; replace hk45 := Lib.hid hk45; replace hGk := Lib.hid hGk))
      have hi35 : KI (w3.alloc (.cells #[.int .i64 z0, .int .i64 z1, .int .u64 z2, .int .i64 z3, .bool z4, .bool z5, .int .i64 z6, .slice z7 z8 z9] tA)) w5 := hGk.out.ki (fun b hb cs f e => by
        obtain ⟨cs', hc⟩ := hO3.out.tag b (by simpa using hb)
        exact tag_ne hc e (by decide) rfl)
      have hi25 : KI w2 w5 := hk34.out.ki0.trans hi35
      have hrg3 := hrg2.out.keeps hk34.out
      have hnot : ∀ b, (∃ es c, w2.heap[b]? = some (Obj.map es c)) ∨ (∃ a s n c, w2.heap[b]? = some (Obj.mapIter a s n c)) → b < w2.heap.size → b ∉ (Value.slice oa NN oc).ownBlock.toList := fun b hb hl hm => by
        obtain ⟨cs', hc⟩ := hO3.out.tag b (by simpa using hm)
        rw [hk34.out.block b hl (by simp)] at hc
        rcases hb with ⟨es, c, e⟩ | ⟨a, s, n, c, e⟩
        · rw [e] at hc; cases hc
        · rw [e] at hc; cases hc
      have hrg5 : MapS.Rg ktQ aV w5 bm w.heap.size R R' := by
        obtain ⟨l1, l2, _⟩ := hrg2.out.lt
        obtain ⟨⟨n, D, left, cnt, ⟨es, clock, since, seen, c0, e1, F, hs, hD, e2, rest⟩, hR⟩, _⟩ := id hrg2.out
        exact hrg3.kept hGk.out (hnot _ (.inl ⟨_, _, e1⟩) l1) (hnot _ (.inr ⟨_, _, _, _, e2⟩) l2)
      have hL5 := (hLA2.out.ki hi25).snoc (hxy3.out.ki (((Keeps.refl [] w3).alloc _).ki0.trans hi35))
      rw [show Yd.map (·.2) ++ [y] = (Yd ++ [((x0, x1, x2), y)]).map (·.2) by simp] at hL5
      have hLR5 := hLR3.out.ki hi25
      replace hrg5 := Lib.hid hrg5
      replace hL5 := Lib.hid hL5
      replace hLR5 := Lib.hid hLR5
      clear hi35 hi25 hrg3 hnot hrg2 hLA2 hLR3 hO3 hk34 hGk hxy3 hmade
      go_wp2
      go_roundg R'.length
      case measure => exact hrl2
      case rel => exact ⟨R', _, _, _, rfl, hrg5, hLR5, hN2, hP3, hO5, hL5, hk45⟩
end Go.Proofs.Ythfdngjbcgkkfaa

namespace Go.Proofs.Ythfdngjbcgkkfaa
open Go.RowKit

/-- A claim. -/
structure PCl where
  m : Int
  ep : Int
  st : List T3
  sc : List T3
  ch : List T3
  deriving DecidableEq
def PCl.at (x : PCl) : Nat → List T3
  | 0 => x.st
  | 1 => x.sc
  | _ => x.ch
def PCl.upd (x : PCl) (j : Nat) (L : List T3) : PCl := match j with
  | 0 => { x with st := L }
  | 1 => { x with sc := L }
  | _ => { x with ch := L }
abbrev SlT := Option Addr × Nat × Nat
abbrev nilT : SlT := (none, 0, 0)
def rowsC (P : List PCl) (V : Nat → Nat → SlT) : List ClV := P.mapIdx (fun k p => ⟨p.m, p.ep, V k 0, V k 1, V k 2⟩)
theorem rowsC_len (P : List PCl) (V : Nat → Nat → SlT) : (rowsC P V).length = P.length := by simp [rowsC]
theorem rowsC_get (P : List PCl) (V : Nat → Nat → SlT) (k : Nat) (hk : k < P.length) : (rowsC P V)[k]'(by rw [rowsC_len]; exact hk) = ⟨P[k].m, P[k].ep, V k 0, V k 1, V k 2⟩ := by simp [rowsC]
def updV (V : Nat → Nat → SlT) (k j : Nat) (v : SlT) : Nat → Nat → SlT := fun a b => if a = k ∧ b = j then v else V a b
structure CL (w : World) (B : Nat) (vc : Value) (P : List PCl) (V : Nat → Nat → SlT) : Prop where
  c : shC.O w B tC vc (rowsC P V)
  o : ∀ k j (hk : k < P.length), j < 3 → shT.O w B tN (slv (V k j)) (P[k].at j)
  d : ∀ k j k' j' b, k < P.length → j < 3 → k' < P.length → j' < 3 → (slv (V k j)).ownBlock = some b → (slv (V k' j')).ownBlock = some b → k = k' ∧ j = j'
theorem CL.nil (w : World) (B : Nat) (V : Nat → Nat → SlT) : CL w B (.slice none 0 0) [] V := ⟨Sh.O.nil _ _ _ _, fun k j hk => by simp at hk, fun k j k' j' b hk => by simp at hk⟩
namespace CL
variable {w w' : World} {B : Nat} {vc vc' : Value} {P : List PCl} {V : Nat → Nat → SlT}
theorem keeps (h : CL w B vc P V) (hk : Keeps [] w w') : CL w' B vc P V := ⟨h.c.keeps hk, fun k j h1 h2 => (h.o k j h1 h2).keeps hk, h.d⟩
/-- The rows' blocks are no needs' blocks. -/
theorem ne (h : CL w B vc P V) {k j b : Nat} (hk : k < P.length) (hj : j < 3) (h1 : (slv (V k j)).ownBlock = some b) : vc.ownBlock ≠ some b := fun e => by
  obtain ⟨cs, h2⟩ := (h.o k j hk hj).tag b h1
  obtain ⟨cs', h3⟩ := h.c.tag b e
  exact tag_ne h2 h3 (by decide) rfl
theorem push (h : CL w B vc P V) (m ep : Int) (hG : Grw w w' vc vc') (hO : shC.O w' B tC vc' (rowsC P V ++ [⟨m, ep, nilT, nilT, nilT⟩])) :
    CL w' B vc' (P ++ [⟨m, ep, [], [], []⟩]) (fun a b => if a = P.length then nilT else V a b) := by
  have hk := hG.keepsO
  refine ⟨?_, fun k j hk2 hj => ?_, fun k j k' j' b h1 h2 h3 h4 e1 e2 => ?_⟩
  · have e : rowsC (P ++ [⟨m, ep, [], [], []⟩]) (fun a b => if a = P.length then nilT else V a b) = rowsC P V ++ [⟨m, ep, nilT, nilT, nilT⟩] := by
      refine List.ext_getElem (by simp [rowsC_len]) (fun k h1 h2 => ?_)
      have hk1 : k < P.length + 1 := by simpa [rowsC_len] using h1
      rw [rowsC_get _ _ k (by simpa using hk1)]
      by_cases e : k = P.length
      · subst e
        simp [List.getElem_append, rowsC_len]
      · have hlt : k < P.length := by omega
        rw [show (rowsC P V ++ [⟨m, ep, nilT, nilT, nilT⟩])[k] = (rowsC P V)[k]'(by rw [rowsC_len]; exact hlt) from List.getElem_append_left _, rowsC_get P V k hlt]
        simp [List.getElem_append_left hlt, e]
    rw [e]; exact hO
  · by_cases e : k = P.length
    · subst e
      simp only [if_true]
      have : (P ++ [(⟨m, ep, [], [], []⟩ : PCl)])[P.length].at j = [] := by
        simp only [List.getElem_concat_length]
        unfold PCl.at; split <;> rfl
      rw [this]
      exact Sh.O.nil _ _ _ _
    · have hlt : k < P.length := by simp at hk2; omega
      simp only [if_neg e, List.getElem_append_left hlt]
      refine (h.o k j hlt hj).keepS hk (fun b hb e => ?_)
      exact h.ne hlt hj e (by simpa using hb)
  · have n1 : k ≠ P.length := fun e => by subst e; simp [slv, Value.ownBlock] at e1
    have n2 : k' ≠ P.length := fun e => by subst e; simp [slv, Value.ownBlock] at e2
    simp only [if_neg n1] at e1
    simp only [if_neg n2] at e2
    simp at h1 h3
    exact h.d k j k' j' b (by omega) h2 (by omega) h4 e1 e2
theorem at_upd (x : PCl) (j j' : Nat) (L : List T3) (hj : j < 3) (hj' : j' < 3) : (x.upd j L).at j' = if j' = j then L else x.at j' := by
  match j, j', hj, hj' with
  | 0, 0, _, _ => rfl
  | 0, 1, _, _ => rfl
  | 0, 2, _, _ => rfl
  | 1, 0, _, _ => rfl
  | 1, 1, _, _ => rfl
  | 1, 2, _, _ => rfl
  | 2, 0, _, _ => rfl
  | 2, 1, _, _ => rfl
  | 2, 2, _, _ => rfl
theorem upd_m (x : PCl) (j : Nat) (L : List T3) : (x.upd j L).m = x.m ∧ (x.upd j L).ep = x.ep := by unfold PCl.upd; split <;> exact ⟨rfl, rfl⟩
/-- One list of needs turns, in its own block. -/
theorem turn (h : CL w B vc P V) {k j : Nat} (hk : k < P.length) (hj : j < 3) {L' : List T3} (hK : Keeps (slv (V k j)).ownBlock.toList w w') (hO : shT.O w' B tN (slv (V k j)) L') : CL w' B vc (P.set k (P[k].upd j L')) V := by
  refine ⟨?_, fun k' j' hk' hj' => ?_, fun k' j' k2 j2 b h1 h2 h3 h4 e1 e2 => h.d k' j' k2 j2 b (by simpa using h1) h2 (by simpa using h3) h4 e1 e2⟩
  · have e : rowsC (P.set k (P[k].upd j L')) V = rowsC P V := by
      refine List.ext_getElem (by simp [rowsC_len]) (fun i h1 h2 => ?_)
      have hi : i < P.length := by simpa [rowsC_len] using h2
      rw [rowsC_get _ _ i (by simpa using hi), rowsC_get P V i hi]
      rw [List.getElem_set]
      split
      · rename_i e; subst e; rw [(upd_m _ _ _).1, (upd_m _ _ _).2]
      · rfl
    rw [e]
    exact h.c.keepS hK (fun b hb e => h.ne hk hj (by simpa using hb) e)
  · have hk2 : k' < P.length := by simpa using hk'
    rw [List.getElem_set]
    by_cases e : k = k'
    · subst e
      rw [if_pos rfl, at_upd _ _ _ _ hj hj']
      by_cases ej : j' = j
      · subst ej; rw [if_pos rfl]; exact hO
      · rw [if_neg ej]
        exact (h.o k j' hk hj').keepS hK (fun b hb e => ej (h.d k j k j' b hk hj hk hj' (by simpa using hb) e).2.symm)
    · rw [if_neg e]
      exact (h.o k' j' hk2 hj').keepS hK (fun b hb e2 => e (h.d k j k' j' b hk hj hk2 hj' (by simpa using hb) e2).1)
/-- One list of needs has grown; the row's cell is stored. -/
theorem app {g n c : Nat} (h : CL w B (.slice (some ⟨g, 0, none⟩) n c) P V) {k j : Nat} (hk : k < P.length) (hj : j < 3) {L' : List T3} {v' : SlT} (hG : Grw w w' (slv (V k j)) (slv v')) (hO : shT.O w' B tN (slv v') L') :
    CL (w'.setCell ⟨g, k * 5 + (2 + j), none⟩ (slv v')) B (.slice (some ⟨g, 0, none⟩) n c) (P.set k (P[k].upd j L')) (updV V k j v') := by
  have hK := hG.keepsO
  have hcK : shC.O w' B tC (.slice (some ⟨g, 0, none⟩) n c) (rowsC P V) := h.c.keepS hK (fun b hb e => h.ne hk hj (by simpa using hb) e)
  have hk2 : Keeps [g] w' (w'.setCell ⟨g, k * 5 + (2 + j), none⟩ (slv v')) := (Keeps.refl _ _).setCell (.inr (by simp)) _
  have hgt : ∃ cs, w'.heap[g]? = some (Obj.cells cs tC (0, 0)) := hcK.tag g (by simp [Value.ownBlock])
  have hne : ∀ {L : List T3} {v : Value}, shT.O w' B tN v L → v.ownBlock ≠ some g := fun hO e => by
    obtain ⟨cs, hc⟩ := hO.tag g e
    obtain ⟨cs', hc'⟩ := hgt
    exact tag_ne hc hc' (by decide) rfl
  refine ⟨?_, fun k' j' hk' hj' => ?_, fun k' j' k2 j2 b h1 h2 h3 h4 e1 e2 => ?_⟩
  · have hkr : k < (rowsC P V).length := by rw [rowsC_len]; exact hk
    have hs := hcK.set hkr ⟨P[k].m, P[k].ep, updV V k j v' k 0, updV V k j v' k 1, updV V k j v' k 2⟩ (2 + j) (slv v') (by
      rw [rowsC_get P V k hk]
      match j, hj with
      | 0, _ => simp [shC, ClV.cs, updV]
      | 1, _ => simp [shC, ClV.cs, updV]
      | 2, _ => simp [shC, ClV.cs, updV]) (by show 2 + j < 5; omega) rfl
    have e : rowsC (P.set k (P[k].upd j L')) (updV V k j v') = (rowsC P V).set k ⟨P[k].m, P[k].ep, updV V k j v' k 0, updV V k j v' k 1, updV V k j v' k 2⟩ := by
      refine List.ext_getElem (by simp [rowsC_len]) (fun i h1 h2 => ?_)
      have hi : i < P.length := by simpa [rowsC_len] using h2
      rw [rowsC_get _ _ i (by simpa using hi), List.getElem_set, List.getElem_set]
      by_cases e : k = i
      · subst e; rw [if_pos rfl, if_pos rfl, (upd_m _ _ _).1, (upd_m _ _ _).2]
      · have e' : ¬ i = k := fun h => e h.symm
        rw [if_neg e, if_neg e, rowsC_get P V i hi]
        simp [updV, e']
    rw [e]; exact hs
  · have hk3 : k' < P.length := by simpa using hk'
    rw [List.getElem_set]
    by_cases e : k = k'
    · subst e
      rw [if_pos rfl, at_upd _ _ _ _ hj hj']
      by_cases ej : j' = j
      · subst ej
        rw [if_pos rfl]
        simp only [updV, and_self, if_true]
        exact hO.keepS hk2 (fun b hb e => by simp at hb; subst hb; exact hne hO e)
      · rw [if_neg ej]
        simp only [updV, ej, and_false, if_false]
        have h1 : shT.O w' B tN (slv (V k j')) (P[k].at j') := (h.o k j' hk hj').keepS hK (fun b hb e => ej (h.d k j k j' b hk hj hk hj' (by simpa using hb) e).2.symm)
        exact h1.keepS hk2 (fun b hb e => by simp at hb; subst hb; exact hne h1 e)
    · rw [if_neg e]
      have e' : ¬ k' = k := fun h => e h.symm
      simp only [updV, e', false_and, if_false]
      have h1 : shT.O w' B tN (slv (V k' j')) (P[k'].at j') := (h.o k' j' hk3 hj').keepS hK (fun b hb e2 => e (h.d k j k' j' b hk hj hk3 hj' (by simpa using hb) e2).1)
      exact h1.keepS hk2 (fun b hb e => by simp at hb; subst hb; exact hne h1 e)
  · have l1 : k' < P.length := by simpa using h1
    have l2 : k2 < P.length := by simpa using h3
    have old : ∀ a c, a < P.length → c < 3 → (slv (V a c)).ownBlock = some b → b < w.heap.size := fun a c ha hc e => (h.o a c ha hc).lt b e
    by_cases c1 : k' = k ∧ j' = j
    · by_cases c2 : k2 = k ∧ j2 = j
      · exact ⟨c1.1.trans c2.1.symm, c1.2.trans c2.2.symm⟩
      · exfalso
        obtain ⟨rfl, rfl⟩ := c1
        simp only [updV, and_self, if_true] at e1
        simp only [updV, if_neg c2] at e2
        rcases hG.own with e3 | ⟨q, e3, hq⟩
        · rw [e3] at e1
          have := h.d k' j' k2 j2 b l1 h2 l2 h4 e1 e2
          exact c2 ⟨this.1.symm, this.2.symm⟩
        · rw [e3] at e1; cases e1
          have := old k2 j2 l2 h4 e2; omega
    · by_cases c2 : k2 = k ∧ j2 = j
      · exfalso
        obtain ⟨rfl, rfl⟩ := c2
        simp only [updV, and_self, if_true] at e2
        simp only [updV, if_neg c1] at e1
        rcases hG.own with e3 | ⟨q, e3, hq⟩
        · rw [e3] at e2
          exact c1 (h.d k' j' k2 j2 b l1 h2 l2 h4 e1 e2)
        · rw [e3] at e2; cases e2
          have := old k' j' l1 h2 e1; omega
      · simp only [updV, if_neg c1] at e1
        simp only [updV, if_neg c2] at e2
        exact h.d k' j' k2 j2 b l1 h2 l2 h4 e1 e2
end CL
end Go.Proofs.Ythfdngjbcgkkfaa
