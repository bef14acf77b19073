/- Texts that the laws lean on, in the order in which they build. Data among a law's arguments, of bounded bulk: how long a certificate's lists may be. (Printed by mkbulk.py.) -/
import Derived.Test.YtiplgpefapeapaaGreatE13
import Derived.Test.YtiplgpefapeapaaGreatRows
set_option linter.unusedVariables false
set_option linter.unusedSimpArgs false
namespace Go.Proofs.YtiplgpefapeapaaGreat
namespace Gen
open Go Go.ChangeShapes Go.WideShapes Go.ChangeAt Go.RowKit

theorem bulk_one {H : Type} (d : DataW H) : 1 ≤ Rows.uptoBulk d := by
  cases d with
  | lit l => cases l <;> simp [Rows.uptoBulk]
  | nil => simp [Rows.uptoBulk]
  | ptr d => simp [Rows.uptoBulk]
  | slice elems spare => simp [Rows.uptoBulk]
  | agg parts => simp [Rows.uptoBulk]
  | iface t d => simp [Rows.uptoBulk]
  | map entries => simp [Rows.uptoBulk]
  | held h => simp [Rows.uptoBulk]
theorem bulk_part {H : Type} {d : DataW H} {l : List (DataW H)} (h : d ∈ l) : Rows.uptoBulk d ≤ Rows.uptoBulkAll l := by
  induction l with
  | nil => cases h
  | cons x r ih =>
    simp only [Rows.uptoBulkAll]
    rcases List.mem_cons.1 h with e | e
    · subst e; omega
    · have := ih e; omega
theorem bulk_len {H : Type} (l : List (DataW H)) : l.length ≤ Rows.uptoBulkAll l := by
  induction l with
  | nil => simp [Rows.uptoBulkAll]
  | cons x r ih => have := bulk_one x; simp only [Rows.uptoBulkAll, List.length_cons]; omega
/-- The cells `cs` are data of type `t`, of bulk at most `N`. -/
def CsB (P : Program) (w : World) (t : TypeId) (cs : List Value) (N : Nat) : Prop :=
  ∃ (H : Type) (enc : TypeId × Value → H) (fuel : Nat) (x : DataW H × List MemPlace), DataW.trod enc P w 0 (fun _ => true) true fuel t cs = some x ∧ Rows.uptoBulk x.1 ≤ N
variable {P : Program} {w : World}
theorem CsB.of_agg {H : Type} {enc : TypeId × Value → H} {t : TypeId} {v : Value} {d : DataW H} {ps : List MemPlace} {N : Nat} (h : DataW.Trod enc P w 0 (fun _ => true) true t v d ps) (hN : Rows.uptoBulk d ≤ N) : CsB P w t v.cells.toList N := by
  obtain ⟨fuel, hf⟩ := h
  exact ⟨H, enc, fuel, _, hf, hN⟩
theorem CsB.struct {t : TypeId} {fs : Array Field} (ht : P.underlying t = some (.struct fs)) {cs : List Value} {N : Nat} (h : CsB P w t cs N) : cs.length = P.cellsOf t ∧ ∀ (i : Nat) (f : Field), fs[i]? = some f → CsB P w f.type ((cs.drop f.offset).take (P.cellsOf f.type)) N := by
  obtain ⟨H, enc, fuel, x, hf, hN⟩ := h
  obtain ⟨xs, n, _, ex, hl, hx, hall⟩ := DataW.trod_struct ht hf
  refine ⟨hl, fun i f hi => ?_⟩
  have h1 := hall i f hi
  have hlt : i < xs.length := by rw [hx]; exact (Array.getElem?_eq_some_iff.1 hi).1
  rw [List.getElem?_eq_getElem hlt] at h1
  refine ⟨H, enc, n, _, h1, ?_⟩
  have h2 := bulk_part (d := xs[i].1) (l := xs.map (·.1)) (List.mem_map.2 ⟨xs[i], List.getElem_mem hlt, rfl⟩)
  rw [ex] at hN
  simp only [Rows.uptoBulk] at hN
  omega
theorem CsB.slice {t e : TypeId} {sz : Nat} (ht : P.underlying t = some (.slice e)) (hsz : P.cellsOf e = sz) (hpos : 0 < sz) {cs : List Value} {N : Nat} (h : CsB P w t cs N) :
    ∃ v n es, cs = [v] ∧ Sl w sz v n es ∧ n ≤ N ∧ ∀ k, k < n → CsB P w e ((es.drop (k * sz)).take sz) N := by
  obtain ⟨H, enc, fuel, x, hf, hN⟩ := h
  subst hsz
  rcases Go.Deep.open_slice ht hf with ⟨rfl, _⟩ | ⟨a, len, cap, m, n, D, Pl, rfl, _, hl, hm, hmm, ex, hx⟩
  · exact ⟨_, 0, [], rfl, Sl.nil _ _, by simp, fun k hk => by omega⟩
  · simp only [if_true] at hmm
    subst hmm
    have hlN : len ≤ N := by
      have h1 := bulk_len ((List.range len).map D)
      rw [ex] at hN
      simp only [Rows.uptoBulk, List.length_map, List.length_range] at hN h1
      omega
    have hDN : ∀ k, k < len → Rows.uptoBulk (D k) ≤ N := fun k hk => by
      have h1 := bulk_part (d := D k) (l := (List.range len).map D) (List.mem_map.2 ⟨k, List.mem_range.2 hk, rfl⟩)
      rw [ex] at hN
      simp only [Rows.uptoBulk] at hN
      omega
    obtain ⟨V, hV⟩ := Go.Deep.choose_lt (α := List Value) (p := fun i v => w.cells? 0 (a.add (i * P.cellsOf e)) (P.cellsOf e) = some v ∧ DataW.trod enc P w 0 (fun _ => true) true n e v = some (D i, Pl i)) hx
    have hVl : ∀ i, i < m → (V i).length = P.cellsOf e := fun i hi => (World.cells?_some (hV i hi).1).2.1
    have hchunk : ∀ (n : Nat), n ≤ m → ((List.range n).flatMap V).length = n * P.cellsOf e ∧ ∀ k, k < n → (((List.range n).flatMap V).drop (k * P.cellsOf e)).take (P.cellsOf e) = V k := by
      intro n
      induction n with
      | zero => exact fun _ => ⟨by simp, fun k hk => by omega⟩
      | succ n ih =>
        intro hn
        obtain ⟨h1, h2⟩ := ih (by omega)
        rw [List.range_succ, List.flatMap_append]
        simp only [List.flatMap_cons, List.flatMap_nil, List.append_nil]
        refine ⟨by rw [List.length_append, h1, hVl n (by omega)]; rw [Nat.add_mul, Nat.one_mul], fun k hk => ?_⟩
        rcases Nat.lt_succ_iff_lt_or_eq.1 hk with hkn | rfl
        · have hk2 : k * P.cellsOf e + P.cellsOf e ≤ n * P.cellsOf e := by rw [← Nat.succ_mul]; exact Nat.mul_le_mul_right _ hkn
          rw [List.drop_append_of_le_length (by omega), List.take_append_of_le_length (by rw [List.length_drop]; omega)]
          exact h2 k hkn
        · rw [List.drop_append, h1, List.drop_of_length_le (by omega)]
          simp only [Nat.sub_self, List.drop_zero, List.nil_append]
          exact List.take_of_length_le (by rw [hVl _ (by omega)]; exact Nat.le_refl _)
    obtain ⟨hl1, hl2⟩ := hchunk len hl
    refine ⟨_, len, (List.range len).flatMap V, rfl, ⟨hl1, some a, m, rfl, hl, hm, by simp, fun hp => ?_⟩, hlN, fun k hk => ?_⟩
    · obtain ⟨b, off, spot⟩ := a
      have hlen0 : 0 < len := by
        rcases Nat.eq_zero_or_pos len with e | e
        · subst e; simp at hp
        · exact e
      have hspot : spot = none := by
        have h0 := (World.cells?_some (hV 0 (by omega)).1).2.2 0 (by omega)
        rw [List.getElem?_eq_getElem (by rw [hVl 0 (by omega)]; omega)] at h0
        have := World.cell?_spot h0
        simpa [Addr.add] using this
      subst hspot
      refine ⟨b, off, rfl, fun j u hj => ?_⟩
      have hjl : j < len * P.cellsOf e := by rw [← hl1]; exact (List.getElem?_eq_some_iff.1 hj).1
      have hi : j / P.cellsOf e < len := (Nat.div_lt_iff_lt_mul hpos).2 hjl
      have hr : j % P.cellsOf e < P.cellsOf e := Nat.mod_lt _ hpos
      have hdm : j / P.cellsOf e * P.cellsOf e + j % P.cellsOf e = j := by rw [Nat.mul_comm]; exact Nat.div_add_mod _ _
      have hc := (World.cells?_some (hV (j / P.cellsOf e) (by omega)).1).2.2 (j % P.cellsOf e) hr
      have hvk := hl2 _ hi
      have e2 : (V (j / P.cellsOf e))[j % P.cellsOf e]? = some u := by
        rw [← hvk, List.getElem?_take_of_lt hr, List.getElem?_drop, hdm]; exact hj
      rw [add_plain, add_plain, Nat.add_assoc, hdm, e2] at hc
      exact hc
    · rw [hl2 k hk]
      exact ⟨H, enc, n, _, (hV k (by omega)).2, hDN k hk⟩
end Gen
open Go Go.RowKit
/-- Two readings of one slice are of one length. -/
theorem sl_len {w : World} {sz sz' : Nat} {v : Value} {n m : Nat} {cs ds : List Value} (h : Sl w sz v n cs) (k : Sl w sz' v m ds) : n = m := by
  obtain ⟨_, a, c, e, _⟩ := h
  obtain ⟨_, a', c', e', _⟩ := k
  rw [e] at e'; cases e'; rfl
/-- The element's cell. -/
theorem sl_at {w : World} {sz : Nat} {n c g o : Nat} {es : List Value} (h : Sl w sz (.slice (some ⟨g, o, none⟩) n c) n es) {k j : Nat} (hk : k < n) (hj : j < sz) {u : Value} (hu : w.cell? ⟨g, o + (k * sz + j), none⟩ = some u) : ((es.drop (k * sz)).take sz)[j]? = some u := by
  obtain ⟨hl, a, c', e, _, _, _, hc⟩ := h
  cases e
  have h1 : k * sz + j < n * sz := by
    have : k * sz + sz ≤ n * sz := by rw [← Nat.succ_mul]; exact Nat.mul_le_mul_right _ hk
    omega
  obtain ⟨g', o', e2, hc⟩ := hc (by omega)
  cases e2
  rw [List.getElem?_take_of_lt hj, List.getElem?_drop]
  have hlt : k * sz + j < es.length := by omega
  have h2 := hc (k * sz + j) es[k * sz + j] (List.getElem?_eq_getElem hlt)
  rw [hu] at h2
  cases h2
  exact List.getElem?_eq_getElem hlt
theorem drop_take1 {l : List Value} {j : Nat} {u : Value} (h : l[j]? = some u) : (l.drop j).take 1 = [u] := by
  have hlt := (List.getElem?_eq_some_iff.1 h).1
  rw [List.drop_eq_getElem_cons hlt]
  have := (List.getElem?_eq_some_iff.1 h).2
  simp [this]
theorem bd_needs {w : World} {v : Value} {L : List T3} {N : Nat} {t : TypeId} {e : TypeId} (ht : Tryz.prog.underlying t = some (.slice e)) (he : Tryz.prog.cellsOf e = 3) (h : Gen.CsB Tryz.prog w t [v] N) (hR : shT.R w v L) : L.length ≤ N := by
  obtain ⟨v', n, es, e1, hs, hn, _⟩ := Gen.CsB.slice ht he (by decide) h
  simp only [List.cons.injEq, and_true] at e1
  subst e1
  have := sl_len hs hR
  omega
set_option maxRecDepth 100000 in
set_option maxHeartbeats 1000000 in
theorem bd_answers {w : World} {v : Value} {Y : List Ans} {N : Nat} (h : Gen.CsB Tryz.prog w 29 [v] N) (hR : RdA w v Y) : Y.length ≤ N ∧ ∀ a ∈ Y, a.ins.length ≤ N := by
  obtain ⟨v', n, es, e1, hs, hn, hx⟩ := Gen.CsB.slice Tryz.underlying29 (show Tryz.prog.cellsOf tA = 8 by kernel_rfl) (by decide) h
  simp only [List.cons.injEq, and_true] at e1
  subst e1
  obtain ⟨X, h1, h2⟩ := id hR
  have hnY : n = Y.length := by have := sl_len hs h1; have := h2.1; omega
  refine ⟨by omega, fun a ha => ?_⟩
  obtain ⟨k, hk, rfl⟩ := List.mem_iff_getElem.1 ha
  obtain ⟨g, o, c, x, rfl, hIn, hcell⟩ := hR.elem hk
  have h7 := hcell 7 _ rfl
  rw [← hnY] at hs
  have hat := sl_at hs (k := k) (j := 7) (by omega) (by decide) (by rw [← Nat.add_assoc]; exact h7)
  obtain ⟨_, hall⟩ := Gen.CsB.struct Tryz.underlying46 (hx k (by omega))
  have h8 := hall 7 _ rfl
  replace h8 : Gen.CsB Tryz.prog w 44 ((((es.drop (k * 8)).take 8).drop 7).take (Tryz.prog.cellsOf 44)) N := h8
  rw [show Tryz.prog.cellsOf 44 = 1 by kernel_rfl, drop_take1 hat] at h8
  exact bd_needs Tryz.underlying44 (by kernel_rfl) h8 hIn.ins
set_option maxRecDepth 100000 in
set_option maxHeartbeats 1000000 in
theorem bd_claims {w : World} {v : Value} {P : List PCl} {N : Nat} (h : Gen.CsB Tryz.prog w 30 [v] N) (hR : LC w v P) : P.length ≤ N ∧ ∀ p ∈ P, p.st.length ≤ N ∧ p.sc.length ≤ N ∧ p.ch.length ≤ N := by
  obtain ⟨v', n, es, e1, hs, hn, hx⟩ := Gen.CsB.slice Tryz.underlying30 (show Tryz.prog.cellsOf tC = 5 by kernel_rfl) (by decide) h
  simp only [List.cons.injEq, and_true] at e1
  subst e1
  obtain ⟨X, h1, h2, _⟩ := id hR
  have hnY : n = P.length := by have := sl_len hs h1; omega
  refine ⟨by omega, fun a ha => ?_⟩
  obtain ⟨k, hk, rfl⟩ := List.mem_iff_getElem.1 ha
  obtain ⟨g, o, c, x, rfl, hIn, _, _, c2, c3, c4⟩ := hR.elem hk
  rw [← hnY] at hs
  obtain ⟨_, hall⟩ := Gen.CsB.struct Tryz.underlying49 (hx k (by omega))
  have d2 := sl_at hs (k := k) (j := 2) (by omega) (by decide) (by rw [← Nat.add_assoc]; exact c2)
  have d3 := sl_at hs (k := k) (j := 3) (by omega) (by decide) (by rw [← Nat.add_assoc]; exact c3)
  have d4 := sl_at hs (k := k) (j := 4) (by omega) (by decide) (by rw [← Nat.add_assoc]; exact c4)
  have g2 := hall 2 _ rfl
  have g3 := hall 3 _ rfl
  have g4 := hall 4 _ rfl
  replace g2 : Gen.CsB Tryz.prog w 42 ((((es.drop (k * 5)).take 5).drop 2).take (Tryz.prog.cellsOf 42)) N := g2
  replace g3 : Gen.CsB Tryz.prog w 42 ((((es.drop (k * 5)).take 5).drop 3).take (Tryz.prog.cellsOf 42)) N := g3
  replace g4 : Gen.CsB Tryz.prog w 42 ((((es.drop (k * 5)).take 5).drop 4).take (Tryz.prog.cellsOf 42)) N := g4
  rw [show Tryz.prog.cellsOf 42 = 1 by kernel_rfl] at g2 g3 g4
  rw [drop_take1 d2] at g2
  rw [drop_take1 d3] at g3
  rw [drop_take1 d4] at g4
  exact ⟨bd_needs Tryz.underlying42 (by kernel_rfl) g2 hIn.st, bd_needs Tryz.underlying42 (by kernel_rfl) g3 hIn.sc, bd_needs Tryz.underlying42 (by kernel_rfl) g4 hIn.ch⟩
/-- No list is longer than `N`. -/
structure Ct.BdN (c : Ct) (N : Nat) : Prop where
  an : c.an.length ≤ N
  cl : c.cl.length ≤ N
  ins : ∀ a ∈ c.an, a.ins.length ≤ N
  ns : ∀ p ∈ c.cl, p.st.length ≤ N ∧ p.sc.length ≤ N ∧ p.ch.length ≤ N
set_option maxRecDepth 100000 in
set_option maxHeartbeats 1000000 in
theorem cert_bulk {H : Type} {enc : TypeId × Value → H} {W : World} {x : CtV} {c : Ct} {d : DataW H} {ps : List MemPlace} {N : Nat} (h : DataW.Trod enc Tryz.prog W 0 (fun _ => true) true tCt (ctV x) d ps) (hN : Rows.uptoBulk d ≤ N) (hw : CtW W x c) : c.BdN N := by
  obtain ⟨_, hall⟩ := Gen.CsB.struct Tryz.underlying32 (Gen.CsB.of_agg h hN)
  have h2 := hall 2 _ rfl
  have h3 := hall 3 _ rfl
  replace h2 : Gen.CsB Tryz.prog W 29 (((ctV x).cells.toList.drop 5).take (Tryz.prog.cellsOf 29)) N := h2
  replace h3 : Gen.CsB Tryz.prog W 30 (((ctV x).cells.toList.drop 6).take (Tryz.prog.cellsOf 30)) N := h3
  rw [show Tryz.prog.cellsOf 29 = 1 by kernel_rfl, show ((ctV x).cells.toList.drop 5).take 1 = [slv x.va] from rfl] at h2
  rw [show Tryz.prog.cellsOf 30 = 1 by kernel_rfl, show ((ctV x).cells.toList.drop 6).take 1 = [slv x.vc] from rfl] at h3
  obtain ⟨a1, a2⟩ := bd_answers h2 hw.an
  obtain ⟨b1, b2⟩ := bd_claims h3 hw.cl
  exact ⟨a1, b1, a2, b2⟩

theorem few1_eqN : ∀ (Y : List Ans) (z : Int), 0 ≤ z → z + (Y.length * 1048576 : Nat) ≤ 9000000000000000000 → (∀ a ∈ Y, a.ins.length ≤ 1048576) → few1 Y z = z + ((Y.map (fun a => a.ins.length)).sum : Nat) ∧ (Y.map (fun a => a.ins.length)).sum ≤ Y.length * 1048576
  | [], z, _, _, _ => by simp [few1]
  | a :: Y, z, h0, h1, h => by
    have ha := h a (by simp)
    simp only [List.length_cons] at h1
    have e : few1 (a :: Y) z = few1 Y (wrap64 (z + (a.ins.length : Nat))) := rfl
    rw [e, IntWalk.wrap64_in _ (by omega)]
    obtain ⟨i1, i2⟩ := few1_eqN Y (z + (a.ins.length : Nat)) (by omega) (by omega) (fun b hb => h b (by simp [hb]))
    rw [i1]
    simp only [List.map_cons, List.sum_cons, List.length_cons]
    omega
theorem few2_eqN : ∀ (P : List PCl) (z : Int), 0 ≤ z → z + (P.length * 3145728 : Nat) ≤ 9000000000000000000 → (∀ p ∈ P, p.st.length ≤ 1048576 ∧ p.sc.length ≤ 1048576 ∧ p.ch.length ≤ 1048576) → few2 P z = z + ((P.map PCl.size).sum : Nat) ∧ (P.map PCl.size).sum ≤ P.length * 3145728
  | [], z, _, _, _ => by simp [few2]
  | p :: P, z, h0, h1, h => by
    obtain ⟨h2, h3, h4⟩ := h p (by simp)
    simp only [List.length_cons] at h1
    have e : few2 (p :: P) z = few2 P (wrap64 (z + wrap64 (wrap64 ((p.st.length : Nat) + (p.sc.length : Nat)) + (p.ch.length : Nat)))) := rfl
    have hs : PCl.size p = p.st.length + p.sc.length + p.ch.length := rfl
    rw [e, IntWalk.wrap64_in ((p.st.length : Int) + (p.sc.length : Nat)) (by omega), IntWalk.wrap64_in ((p.st.length : Int) + (p.sc.length : Nat) + (p.ch.length : Nat)) (by omega), IntWalk.wrap64_in _ (by omega)]
    obtain ⟨i1, i2⟩ := few2_eqN P (z + ((p.st.length : Int) + (p.sc.length : Nat) + (p.ch.length : Nat))) (by omega) (by omega) (fun b hb => h b (by simp [hb]))
    rw [i1]
    simp only [List.map_cons, List.sum_cons, List.length_cons]
    omega
theorem fewV_eqN {c : Ct} (h : c.BdN 1048576) : fewV c = decide (c.size ≤ 100) := by
  have h1 := h.an
  have h2 := h.cl
  have h0 : few0 c = ((c.an.length + c.cl.length : Nat) : Int) := by unfold few0; rw [IntWalk.wrap64_in _ (by omega)]; omega
  obtain ⟨i1, i2⟩ := few1_eqN c.an (few0 c) (by rw [h0]; omega) (by rw [h0]; omega) h.ins
  obtain ⟨j1, j2⟩ := few2_eqN c.cl (few1 c.an (few0 c)) (by rw [i1, h0]; omega) (by rw [i1, h0]; omega) h.ns
  unfold fewV
  rw [j1, i1, h0, decide_eq_decide]
  unfold Ct.size
  omega
theorem few_ofN {c : Ct} (h : c.BdN 1048576) (hf : fewV c = true) : c.Few := few_of (by rw [fewV_eqN h] at hf; simpa using hf)
end Go.Proofs.YtiplgpefapeapaaGreat
