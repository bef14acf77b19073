/- Texts that the laws lean on, in the order in which they build. Data among a law's arguments, each slice of at most reachBytes: how long the insets of a list of answers may be. (Printed by mkweig.py.) -/
import Derived.Test.YtiplgpefapeapaaGreatT10
import Derived.SizedLaws
set_option linter.unusedVariables false
set_option linter.unusedSimpArgs false
namespace Go.Proofs.YtiplgpefapeapaaGreat
namespace Gen
open Go Go.ChangeShapes Go.WideShapes Go.ChangeAt Go.RowKit

theorem wts_all {H : Type} {P : Program} {e : TypeId} : ∀ {l : List (DataW H)} {d : DataW H}, d ∈ l → ∀ n ∈ d.weights P e, n ∈ DataW.weightsAll P e l
  | [], _, h, _, _ => by cases h
  | x :: r, d, h, n, hn => by
    simp only [DataW.weightsAll, List.mem_append]
    rcases List.mem_cons.1 h with rfl | h
    · exact .inl hn
    · exact .inr (wts_all h n hn)
/-- The cells `cs` are data of type `t`; no slice among them takes more than reachBytes. -/
def CsW (P : Program) (w : World) (t : TypeId) (cs : List Value) : Prop :=
  ∃ (H : Type) (enc : TypeId × Value → H) (fuel : Nat) (x : DataW H × List MemPlace), DataW.trod enc P w 0 (fun _ => true) true fuel t cs = some x ∧ ∀ n ∈ DataW.weights P t x.1, n ≤ reachBytes
variable {P : Program} {w : World}
theorem CsW.of_trod {H : Type} {enc : TypeId × Value → H} {t : TypeId} {v : Value} {d : DataW H} {ps : List MemPlace} (hv : v.cells.toList = [v]) (h : DataW.Trod enc P w 0 (fun _ => true) true t v d ps) (hN : ∀ n ∈ DataW.weights P t d, n ≤ reachBytes) : CsW P w t [v] := by
  obtain ⟨fuel, hf⟩ := h
  rw [hv] at hf
  exact ⟨H, enc, fuel, _, hf, hN⟩
theorem CsW.struct {t : TypeId} {fs : Array Field} (ht : P.underlying t = some (.struct fs)) {cs : List Value} (h : CsW P w t cs) : cs.length = P.cellsOf t ∧ ∀ (i : Nat) (f : Field), fs[i]? = some f → CsW P w f.type ((cs.drop f.offset).take (P.cellsOf f.type)) := by
  obtain ⟨H, enc, fuel, x, hf, hN⟩ := h
  obtain ⟨xs, n, _, ex, hl, hx, hall⟩ := DataW.trod_struct ht hf
  refine ⟨hl, fun i f hi => ?_⟩
  have h1 := hall i f hi
  have hlt : i < xs.length := by rw [hx]; exact (Array.getElem?_eq_some_iff.1 hi).1
  rw [List.getElem?_eq_getElem hlt] at h1
  refine ⟨H, enc, n, _, h1, fun n hn => hN n ?_⟩
  rw [ex]
  unfold DataW.weights
  rw [ht]
  exact DataW.weights_mem_each (j := i) (t := f.type) (d := xs[i].1) (by rw [List.getElem?_map, Array.getElem?_toList, hi]; rfl) (by rw [List.getElem?_map, List.getElem?_eq_getElem hlt]; rfl) n hn
theorem CsW.slice {t e : TypeId} {sz : Nat} (ht : P.underlying t = some (.slice e)) (hsz : P.cellsOf e = sz) (hpos : 0 < sz) {cs : List Value} (h : CsW P w t cs) :
    ∃ v n es, cs = [v] ∧ Sl w sz v n es ∧ n * P.bytesOf e ≤ reachBytes ∧ ∀ k, k < n → CsW P w e ((es.drop (k * sz)).take sz) := by
  obtain ⟨H, enc, fuel, x, hf, hN⟩ := h
  subst hsz
  rcases Go.Deep.open_slice ht hf with ⟨rfl, _⟩ | ⟨a, len, cap, m, n, D, Pl, rfl, _, hl, hm, hmm, ex, hx⟩
  · exact ⟨_, 0, [], rfl, Sl.nil _ _, by simp, fun k hk => by omega⟩
  · simp only [if_true] at hmm
    subst hmm
    have hW : ∀ n ∈ DataW.weights P t (DataW.slice ((List.range len).map D) ((List.range (m - len)).map fun j => D (len + j))), n ≤ reachBytes := fun n hn => hN n (by rw [ex]; exact hn)
    have hlN : len * P.bytesOf e ≤ reachBytes := by
      have h1 := hW ((((List.range len).map D).length + ((List.range (m - len)).map fun j => D (len + j)).length) * P.bytesOf e) (by unfold DataW.weights; rw [ht]; exact List.mem_cons_self)
      simp only [List.length_map, List.length_range] at h1
      exact Nat.le_trans (Nat.mul_le_mul_right _ (by omega)) h1
    have hDN : ∀ k, k < len → ∀ n ∈ DataW.weights P e (D k), n ≤ reachBytes := fun k hk n hn => hW n (by
      unfold DataW.weights
      rw [ht]
      refine List.mem_cons_of_mem _ (List.mem_append.2 (.inl (wts_all (l := (List.range len).map D) (d := D k) (List.mem_map.2 ⟨k, List.mem_range.2 hk, rfl⟩) n hn)))
      )
    obtain ⟨V, hV⟩ := Go.Deep.choose_lt (α := List Value) (p := fun i v => w.cells? 0 (a.add (i * P.cellsOf e)) (P.cellsOf e) = some v ∧ DataW.trod enc P w 0 (fun _ => true) true n e v = some (D i, Pl i)) hx
    have hVl : ∀ i, i < m → (V i).length = P.cellsOf e := fun i hi => (World.cells?_some (hV i hi).1).2.1
    have hchunk : ∀ (n : Nat), n ≤ m → ((List.range n).flatMap V).length = n * P.cellsOf e ∧ ∀ k, k < n → (((List.range n).flatMap V).drop (k * P.cellsOf e)).take (P.cellsOf e) = V k := by
      intro n
      induction n with
      | zero => exact fun _ => ⟨by simp, fun k hk => by omega⟩
      | succ n ih =>
        intro hn
        obtain ⟨h1, h2⟩ := ih (by omega)
        rw [List.range_succ, List.flatMap_append]
        simp only [List.flatMap_cons, List.flatMap_nil, List.append_nil]
        refine ⟨by rw [List.length_append, h1, hVl n (by omega)]; rw [Nat.add_mul, Nat.one_mul], fun k hk => ?_⟩
        rcases Nat.lt_succ_iff_lt_or_eq.1 hk with hkn | rfl
        · have hk2 : k * P.cellsOf e + P.cellsOf e ≤ n * P.cellsOf e := by rw [← Nat.succ_mul]; exact Nat.mul_le_mul_right _ hkn
          rw [List.drop_append_of_le_length (by omega), List.take_append_of_le_length (by rw [List.length_drop]; omega)]
          exact h2 k hkn
        · rw [List.drop_append, h1, List.drop_of_length_le (by omega)]
          simp only [Nat.sub_self, List.drop_zero, List.nil_append]
          exact List.take_of_length_le (by rw [hVl _ (by omega)]; exact Nat.le_refl _)
    obtain ⟨hl1, hl2⟩ := hchunk len hl
    refine ⟨_, len, (List.range len).flatMap V, rfl, ⟨hl1, some a, m, rfl, hl, hm, by simp, fun hp => ?_⟩, hlN, fun k hk => ?_⟩
    · obtain ⟨b, off, spot⟩ := a
      have hlen0 : 0 < len := by
        rcases Nat.eq_zero_or_pos len with e | e
        · subst e; simp at hp
        · exact e
      have hspot : spot = none := by
        have h0 := (World.cells?_some (hV 0 (by omega)).1).2.2 0 (by omega)
        rw [List.getElem?_eq_getElem (by rw [hVl 0 (by omega)]; omega)] at h0
        have := World.cell?_spot h0
        simpa [Addr.add] using this
      subst hspot
      refine ⟨b, off, rfl, fun j u hj => ?_⟩
      have hjl : j < len * P.cellsOf e := by rw [← hl1]; exact (List.getElem?_eq_some_iff.1 hj).1
      have hi : j / P.cellsOf e < len := (Nat.div_lt_iff_lt_mul hpos).2 hjl
      have hr : j % P.cellsOf e < P.cellsOf e := Nat.mod_lt _ hpos
      have hdm : j / P.cellsOf e * P.cellsOf e + j % P.cellsOf e = j := by rw [Nat.mul_comm]; exact Nat.div_add_mod _ _
      have hc := (World.cells?_some (hV (j / P.cellsOf e) (by omega)).1).2.2 (j % P.cellsOf e) hr
      have hvk := hl2 _ hi
      have e2 : (V (j / P.cellsOf e))[j % P.cellsOf e]? = some u := by
        rw [← hvk, List.getElem?_take_of_lt hr, List.getElem?_drop, hdm]; exact hj
      rw [add_plain, add_plain, Nat.add_assoc, hdm, e2] at hc
      exact hc
    · rw [hl2 k hk]
      exact ⟨H, enc, n, _, (hV k (by omega)).2, hDN k hk⟩
end Gen
open Go Go.RowKit
/-- Two readings of one slice are of one length. -/
theorem slw_len {w : World} {sz sz' : Nat} {v : Value} {n m : Nat} {cs ds : List Value} (h : Sl w sz v n cs) (k : Sl w sz' v m ds) : n = m := by
  obtain ⟨_, a, c, e, _⟩ := h
  obtain ⟨_, a', c', e', _⟩ := k
  rw [e] at e'; cases e'; rfl
/-- The element's cell. -/
theorem slw_at {w : World} {sz : Nat} {n c g o : Nat} {es : List Value} (h : Sl w sz (.slice (some ⟨g, o, none⟩) n c) n es) {k j : Nat} (hk : k < n) (hj : j < sz) {u : Value} (hu : w.cell? ⟨g, o + (k * sz + j), none⟩ = some u) : ((es.drop (k * sz)).take sz)[j]? = some u := by
  obtain ⟨hl, a, c', e, _, _, _, hc⟩ := h
  cases e
  have h1 : k * sz + j < n * sz := by
    have : k * sz + sz ≤ n * sz := by rw [← Nat.succ_mul]; exact Nat.mul_le_mul_right _ hk
    omega
  obtain ⟨g', o', e2, hc⟩ := hc (by omega)
  cases e2
  rw [List.getElem?_take_of_lt hj, List.getElem?_drop]
  have hlt : k * sz + j < es.length := by omega
  have h2 := hc (k * sz + j) es[k * sz + j] (List.getElem?_eq_getElem hlt)
  rw [hu] at h2
  cases h2
  exact List.getElem?_eq_getElem hlt
theorem dropw_take1 {l : List Value} {j : Nat} {u : Value} (h : l[j]? = some u) : (l.drop j).take 1 = [u] := by
  have hlt := (List.getElem?_eq_some_iff.1 h).1
  rw [List.drop_eq_getElem_cons hlt]
  have := (List.getElem?_eq_some_iff.1 h).2
  simp [this]
set_option maxRecDepth 100000 in
set_option maxHeartbeats 1000000 in
theorem wt_answers {w : World} {v : Value} {Y : List Ans} (h : Gen.CsW Tryz.prog w 29 [v]) (hR : RdA w v Y) : ∀ a ∈ Y, a.ins.length ≤ 10000000000000 := by
  obtain ⟨v', n, es, e1, hs, _, hx⟩ := Gen.CsW.slice Tryz.underlying29 (show Tryz.prog.cellsOf tA = 8 by kernel_rfl) (by decide) h
  simp only [List.cons.injEq, and_true] at e1
  subst e1
  obtain ⟨X, h1, h2⟩ := id hR
  have hnY : n = Y.length := by have := slw_len hs h1; have := h2.1; omega
  intro a ha
  obtain ⟨k, hk, rfl⟩ := List.mem_iff_getElem.1 ha
  obtain ⟨g, o, c, x, rfl, hIn, hcell⟩ := hR.elem hk
  have h7 := hcell 7 _ rfl
  rw [← hnY] at hs
  have hat := slw_at hs (k := k) (j := 7) (by omega) (by decide) (by rw [← Nat.add_assoc]; exact h7)
  obtain ⟨_, hall⟩ := Gen.CsW.struct Tryz.underlying46 (hx k (by omega))
  have h8 := hall 7 _ rfl
  replace h8 : Gen.CsW Tryz.prog w 44 ((((es.drop (k * 8)).take 8).drop 7).take (Tryz.prog.cellsOf 44)) := h8
  rw [show Tryz.prog.cellsOf 44 = 1 by kernel_rfl, dropw_take1 hat] at h8
  obtain ⟨v', n', es', e1, hs', hn', _⟩ := Gen.CsW.slice Tryz.underlying44 (show Tryz.prog.cellsOf tI = 3 by kernel_rfl) (by decide) h8
  simp only [List.cons.injEq, and_true] at e1
  have hlen : n' = Y[k].ins.length := by
    have h5 := hIn.ins
    rw [e1] at h5
    exact slw_len hs' h5
  rw [show Tryz.prog.bytesOf tI = 24 by kernel_rfl] at hn'
  have := reachBytes_lt
  omega
open Go.ChangeShapes Go.WideShapes Go.ChangeAt in
set_option maxRecDepth 100000 in
set_option maxHeartbeats 1000000 in
theorem open_answers {H : Type} {enc : TypeId × Value → H} {W : World} {base : Nat} {r : Reach} {v : Value} {d : DataW H} {ps : List MemPlace} (hv : Value.okWide Tryz.prog W r base 29 v)
    (h : DataW.Trod enc Tryz.prog W 0 (fun _ => true) true 29 v d ps) (hN : ∀ n ∈ DataW.weights Tryz.prog 29 d, n ≤ reachBytes) : ∃ Y : List Ans, RdA W v Y ∧ (∀ a ∈ Y, a.Fit) ∧ ∀ a ∈ Y, a.ins.length ≤ 10000000000000 := by
  obtain ⟨a0, n0, c0, rfl⟩ := okWide_slice Tryz.underlying29 hv
  obtain ⟨Y, h1, h2⟩ := cs_answers (Gen.Cs.of_trod rfl h)
  exact ⟨Y, h1, h2, wt_answers (Gen.CsW.of_trod rfl h hN) h1⟩
end Go.Proofs.YtiplgpefapeapaaGreat
