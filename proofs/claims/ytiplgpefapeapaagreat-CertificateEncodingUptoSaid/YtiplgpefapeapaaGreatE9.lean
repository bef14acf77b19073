/- Texts that the laws lean on, in the order in which they build. wire's reader in whatever state: Uint, Bool. wire's reader: Count with whatever bound. The reader: Int, Count in whatever state; bytes.Equal. The byte form of a trace (plain), and what appending leaves. Trace.pending. The specification's Agree and Refuse. Trace.Agree. The lists of the specification's Answer: an answer recorded, a question opened; answers and history. The history of a trace that gathers holds the recorded answers: kept by the operations. The law's operations: their cells, what they do (plain). What holds of a trace after n operations (plain). What Decode gives: plain. What holds of the trace that Decode plays again (plain). The memory of Decode: the reader, and the trace beside it. A region that draws its order, parted in two by which of two operations comes first; each part is a chain. Of whatever program. -/
import Derived.Test.YtiplgpefapeapaaGreatE8
set_option linter.unusedVariables false
set_option linter.unusedSimpArgs false
namespace Go.Proofs.YtiplgpefapeapaaGreat
open Go.RowKit

/-- A reader's state: what is left, and the error. -/
abbrev RS := List UInt8 × Int
def rU (s : RS) : Nat × RS := if s.2 = 0 then (match readU s.1 with | some (x, r) => (x, (r, 0)) | none => (0, ([], 11))) else (0, s)
def readB : List UInt8 → Option (Bool × List UInt8)
  | [] => none
  | k :: t => if k.toNat ≤ 1 then some (k.toNat == 1, t) else none
def rB (s : RS) : Bool × RS := if s.2 = 0 then (match readB s.1 with | some (x, r) => (x, (r, 0)) | none => (false, ([], 11))) else (false, s)
/-- The reader in memory, in a state. -/
def RdS (w : World) (br : Nat) (s : RS) : Prop := ∃ v, Rd w br v s.1 s.2
theorem RdS.keeps {w w' : World} {br : Nat} {s : RS} (h : RdS w br s) (hk : Keeps [] w w') : RdS w' br s := by obtain ⟨v, h⟩ := h; exact ⟨v, h.keeps hk⟩
theorem RdS.lt {w : World} {br : Nat} {s : RS} (h : RdS w br s) : br < w.heap.size := by obtain ⟨v, h⟩ := h; exact (cell2_of h.1).2.2.2.2
set_option maxRecDepth 100000 in
set_option maxHeartbeats 2000000 in
theorem uint_err (w : World) (br : Nat) (v : Value) (l : List UInt8) (e : Int) (h : Rd w br v l e) (he : e ≠ 0) :
    Calls Tryz.prog 27 #[.pointer (some ⟨br, 0, none⟩)] w fun en w' => en = .returned (.int .u64 0) ∧ Keeps [] w w' := by
  obtain ⟨c0, c1, f0, f1, hlt⟩ := cell2_of h.1
  have hne : ¬ w.heap.size = br := by omega
  have hne2 : ¬ w.heap.size + 1 = br := by omega
  have he2 : (e == 0) = false := by simp [he]
  obtain ⟨a0, cp0, rfl⟩ := h.2.form
  have hkA : Keeps [] w ((w.alloc (.cells #[.pointer (some ⟨br, 0, none⟩)] 57)).alloc (.cells #[.int .u64 0] 26)) := ((Keeps.refl [] w).alloc _).alloc _
  clear h c0 he
  go_enter Tryz.func27, Tryz.ntmps27
  go_wp2_with (first | go_in)
  go_ret
  exact ⟨rfl, hkA⟩
theorem uintS_c (w : World) (br : Nat) (s : RS) (h : RdS w br s) :
    Calls Tryz.prog 27 #[.pointer (some ⟨br, 0, none⟩)] w fun en w' => en = .returned (.int .u64 (rU s).1) ∧ RdS w' br (rU s).2 ∧ Keeps [br] w w' := by
  obtain ⟨l, e⟩ := s
  obtain ⟨v, h⟩ := h
  by_cases he : e = 0
  · subst he
    refine (uint_c w br v l h).mono fun en w' ⟨h1, h2, h3⟩ => ?_
    have : rU (l, 0) = ((rdU l).1, ((rdU l).2.1, (rdU l).2.2)) := by
      cases hx : readU l with
      | none => simp [rU, rdU, hx]
      | some p => obtain ⟨x, r⟩ := p; simp [rU, rdU, hx]
    rw [this]
    exact ⟨h1, h2, h3⟩
  · refine (uint_err w br v l e h he).mono fun en w' ⟨h1, h2⟩ => ?_
    rw [show rU (l, e) = (0, (l, e)) by unfold rU; rw [if_neg he]]
    exact ⟨h1, ⟨v, h.keeps h2⟩, h2.of_nil⟩
theorem two_boxesB (w : World) (p : Value) : ((w.alloc (.cells #[p] 57)).alloc (.cells #[.bool false] 4)).heap[w.heap.size + 1]? = some (.cells #[.bool false] 4 (0, 0)) := by
  have := heap_alloc_new (w.alloc (.cells #[p] 57)) (.cells #[.bool false] 4)
  simpa using this
set_option maxRecDepth 100000 in
set_option maxHeartbeats 2000000 in
theorem bool1_bad (w : World) (br b1 b2 : Nat) (v : Value) (l : List UInt8) (h : Rd w br v l 0) (h1 : w.cell? ⟨b1, 0, none⟩ = some (.pointer (some ⟨br, 0, none⟩))) (hr : readB l = none) :
    Calls Tryz.prog 80 #[.pointer (some ⟨b1, 0, none⟩), .pointer (some ⟨b2, 0, none⟩)] w fun en w' => en = .returned (.int .i64 11) ∧ Keeps [] w w' := by
  obtain ⟨c0, c1, f0, f1, hlt⟩ := cell2_of h.1
  rcases h.2.cases with ⟨rfl, a, cp, rfl, _, _⟩ | ⟨g, o, cp, rfl, hn, hm, hp, hg, hc⟩
  · clear h hr
    go_enter Tryz.func80, Tryz.ntmps80
    go_wp2
    go_ret
    exact ⟨rfl, Keeps.refl _ _⟩
  · obtain ⟨k, t, rfl⟩ : ∃ k t, l = k :: t := by cases l with | nil => simp at hp | cons k t => exact ⟨k, t, rfl⟩
    have k0 := hc 0 (by simp)
    simp only [Nat.add_zero, List.getElem_cons_zero] at k0
    have hk1 : 1 < k.toNat := by
      rcases Nat.lt_or_ge 1 k.toNat with e | e
      · exact e
      · rw [readB, if_pos e] at hr; cases hr
    clear h hc hp hr
    have hk := k.toNat_lt
    simp only [List.length_cons] at *
    generalize k.toNat = kk at *
    generalize t.length = N at *
    have hNN : (N : Int) + 1 ≤ 9223372036854775807 := by unfold maxLen at hm; omega
    have nz : ((N : Int) + 1 == 0) = false := by simp; omega
    have d1 : (1 : Int) < (kk : Int) := by omega
    go_enter Tryz.func80, Tryz.ntmps80
    go_wp2
    go_ret
    exact ⟨rfl, Keeps.refl _ _⟩
set_option maxRecDepth 100000 in
set_option maxHeartbeats 2000000 in
theorem bool1_ok (w : World) (br b1 b2 : Nat) (v : Value) (l rest : List UInt8) (x : Bool) (h : Rd w br v l 0) (h1 : w.cell? ⟨b1, 0, none⟩ = some (.pointer (some ⟨br, 0, none⟩))) (h2 : w.heap[b2]? = some (.cells #[.bool false] 4 (0, 0)))
    (hne : b1 ≠ b2 ∧ br ≠ b2 ∧ b1 ≠ br) (hr : readB l = some (x, rest)) :
    Calls Tryz.prog 80 #[.pointer (some ⟨b1, 0, none⟩), .pointer (some ⟨b2, 0, none⟩)] w fun en w' => en = .returned (.int .i64 0) ∧ w'.heap[b2]? = some (.cells #[.bool x] 4 (0, 0)) ∧ (∃ v', Rd w' br v' rest 0) ∧ Keeps [br, b2] w w' := by
  obtain ⟨c0, c1, f0, f1, hlt⟩ := cell2_of h.1
  obtain ⟨e0, fe0, hlt2⟩ := cell1_of h2
  rcases h.2.cases with ⟨rfl, a, cp, rfl, _, _⟩ | ⟨g, o, cp, rfl, hn, hm, hp, hg, hc⟩
  · cases hr
  · obtain ⟨k, t, rfl⟩ : ∃ k t, l = k :: t := by cases l with | nil => simp at hp | cons k t => exact ⟨k, t, rfl⟩
    have k0 := hc 0 (by simp)
    simp only [Nat.add_zero, List.getElem_cons_zero] at k0
    have hgb : g ≠ b2 := fun e => by subst e; exact no_byte h2 (by simp) _ _ k0
    have hgr : g ≠ br := fun e => by subst e; exact no_byte h.1 (by simp) _ _ k0
    have hk1 : k.toNat ≤ 1 := by
      rcases Nat.lt_or_ge 1 k.toNat with e | e
      · rw [readB, if_neg (by omega)] at hr; cases hr
      · exact e
    rw [readB, if_pos hk1] at hr
    simp only [Option.some.injEq, Prod.mk.injEq] at hr
    obtain ⟨hx, rfl⟩ := hr
    have htl := SlV.tail h.2 1 (by simp)
    simp only [List.length_cons, List.drop_succ_cons, List.drop_zero, Nat.add_sub_cancel] at htl
    simp only [List.length_cons] at *
    have hh := Lib.hid h
    have hh2 := Lib.hid h2
    clear h h2 hc hp
    generalize hkk : k.toNat = kk at *
    obtain ⟨N, hNt⟩ : ∃ N, t.length = N := ⟨_, rfl⟩
    rw [hNt] at hn c0 htl
    have hhN : Hid (Rd w br (.slice (some ⟨g, o, none⟩) (N + 1) cp) (k :: t) 0) := by rw [← hNt]; exact hh
    clear hNt hh
    have hNN : (N : Int) + 1 ≤ 9223372036854775807 := by unfold maxLen at hm; omega
    have nz : ((N : Int) + 1 == 0) = false := by simp; omega
    have d1 : decide ((1 : Int) < (kk : Int)) = false := by simp; omega
    have h1N : (1 : Int) ≤ (N : Int) + 1 := by omega
    have hxx : ((kk : Int) == 1) = x := by rw [← hx, Bool.eq_iff_iff]; simp; omega
    obtain ⟨vt, hvt⟩ : ∃ vt, (if cp = 1 then some (⟨g, o, none⟩ : Addr) else some ⟨g, o + 1, none⟩) = vt := ⟨_, rfl⟩
    rw [hvt] at htl
    replace htl := Lib.hid htl
    replace hvt := Lib.hid hvt
    replace hkk := Lib.hid hkk
    clear hx
    go_enter Tryz.func80, Tryz.ntmps80
    go_wp2
    refine Free.wp_region_chain (fun i => i == 13 || i == 16) (fun i => true) (fun j b => (j = 13 ∧ b = b2) ∨ (j = 16 ∧ b = br)) (by kernel_rfl) (by kernel_rfl) (by kernel_rfl) ?_
    (repeat (first | (apply Free.cw_pure rfl rfl; (intro w'; go_simp <;> exact rfl); go_frame) | (apply Free.cw_steady rfl rfl rfl; (intro w' hS; have q0 := Free.sx_cell hS h1 (fun _ _ hT => Or.elim hT (fun h => hne.1 h.2) (fun h => hne.2.2 h.2)); have q1 := Free.sx_cell hS k0 (fun _ _ hT => Or.elim hT (fun h => hgb h.2) (fun h => hgr h.2)); have q2 := Free.sx_cell hS c0 (fun j hp hT => Or.elim hT (fun h => hne.2.1 h.2) (fun h => by obtain ⟨rfl, _⟩ := h; exact absurd hp (by decide +kernel))); go_simp <;> exact rfl); go_frame) | (refine Free.cw_skip rfl ?_; go_frame)))
    clear hxx d1 nz hk1
    rw [hvt.out]
    refine Free.cw_loud rfl rfl (fun K hK => ?_)
    go_wp2
    refine hK _ _ rfl (Free.KeepsP.setCell _ (.inl ⟨trivial, rfl⟩) _) ?_
    clear hK K
    (repeat (first | (apply Free.cw_pure rfl rfl; (intro w'; go_simp <;> exact rfl); go_frame) | (apply Free.cw_steady rfl rfl rfl; (intro w' hS; have q0 := Free.sx_cell hS h1 (fun _ _ hT => Or.elim hT (fun h => hne.1 h.2) (fun h => hne.2.2 h.2)); have q1 := Free.sx_cell hS k0 (fun _ _ hT => Or.elim hT (fun h => hgb h.2) (fun h => hgr h.2)); have q2 := Free.sx_cell hS c0 (fun j hp hT => Or.elim hT (fun h => hne.2.1 h.2) (fun h => by obtain ⟨rfl, _⟩ := h; exact absurd hp (by decide +kernel))); go_simp <;> exact rfl); go_frame) | (refine Free.cw_skip rfl ?_; go_frame)))
    refine Free.cw_loud rfl rfl (fun K hK => ?_)
    go_wp2
    refine hK _ _ rfl (Free.KeepsP.setCell _ (.inr ⟨trivial, rfl⟩) _) ?_
    clear hK K
    (repeat (first | (apply Free.cw_pure rfl rfl; (intro w'; go_simp <;> exact rfl); go_frame) | (apply Free.cw_steady rfl rfl rfl; (intro w' hS; have q0 := Free.sx_cell hS h1 (fun _ _ hT => Or.elim hT (fun h => hne.1 h.2) (fun h => hne.2.2 h.2)); go_simp <;> exact rfl); go_frame) | (refine Free.cw_skip rfl ?_; go_frame)))
    refine Free.cw_nil ?_
    go_wp2
    go_ret
    have hbr1 : (w.setCell ⟨b2, 0, none⟩ (.bool x)).heap[br]? = some (.cells #[.slice (some ⟨g, o, none⟩) (N + 1) cp, .int .i64 0] 126 (0, 0)) := (Below.heap_setCell _ _ _ _ (by simp; omega)).trans hhN.out.1
    have hb21 : (w.setCell ⟨b2, 0, none⟩ (.bool x)).heap[b2]? = some (.cells #[.bool x] 4 (0, 0)) := one_setCell hh2.out
    refine ⟨rfl, (Below.heap_setCell _ _ _ _ (by simp; omega)).trans hb21, ⟨_, set2_0 hbr1 _, htl.out.kv ((KV.setCell w _ e0 (by simp)).trans ((KV.setCell _ _ (cell2_of hbr1).1 (by simp)).trans (KV.drew _)))⟩, (((Keeps.refl _ w).setCell (.inr (by simp)) _).setCell (.inr (by simp)) _).drew⟩
set_option maxRecDepth 100000 in
set_option maxHeartbeats 2000000 in
theorem bool_ok (w : World) (br : Nat) (v : Value) (l rest : List UInt8) (x : Bool) (h : Rd w br v l 0) (hr : readB l = some (x, rest)) :
    Calls Tryz.prog 30 #[.pointer (some ⟨br, 0, none⟩)] w fun en w' => en = .returned (.bool x) ∧ (∃ v', Rd w' br v' rest 0) ∧ Keeps [br] w w' := by
  obtain ⟨c0, c1, f0, f1, hlt⟩ := cell2_of h.1
  have hne : ¬ w.heap.size = br := by omega
  have hne2 : ¬ w.heap.size + 1 = br := by omega
  obtain ⟨a0, cp0, rfl⟩ := h.2.form
  have hkA : Keeps [] w ((w.alloc (.cells #[.pointer (some ⟨br, 0, none⟩)] 57)).alloc (.cells #[.bool false] 4)) := ((Keeps.refl [] w).alloc _).alloc _
  have hc := bool1_ok _ br w.heap.size (w.heap.size + 1) _ l rest x (h.keeps hkA) (by simp) (two_boxesB w _) ⟨by omega, by omega, by omega⟩ hr
  replace h := Lib.hid h
  replace hkA := Lib.hid hkA
  replace hc := Lib.hid hc
  replace hr := Lib.hid hr
  clear c0
  go_enter Tryz.func30, Tryz.ntmps30
  go_wp2_with (first
    | (go_at_call 80; refine hc.out.mono ?_; rintro e w3 ⟨rfl, hb2, ⟨v3, hR3⟩, hk3⟩; obtain ⟨d0, d1, g0, g1, hlt3⟩ := cell2_of hR3.1; obtain ⟨e0, _, hlt4⟩ := cell1_of hb2; have hk4 := Lib.hid hk3; have hR4 := Lib.hid hR3; clear hk3 hR3 hb2)
    | go_in)
  go_ret
  exact ⟨rfl, ⟨v3, rd_set_ok hR4.out 0⟩, (hkA.out.of_nil.trans' hk4.out (by simp)).setCell (.inr (by simp)) _⟩
set_option maxRecDepth 100000 in
set_option maxHeartbeats 2000000 in
theorem bool_bad (w : World) (br : Nat) (v : Value) (l : List UInt8) (h : Rd w br v l 0) (hr : readB l = none) :
    Calls Tryz.prog 30 #[.pointer (some ⟨br, 0, none⟩)] w fun en w' => en = .returned (.bool false) ∧ Rd w' br (.slice none 0 0) [] 11 ∧ Keeps [br] w w' := by
  obtain ⟨c0, c1, f0, f1, hlt⟩ := cell2_of h.1
  have hne : ¬ w.heap.size = br := by omega
  have hne2 : ¬ w.heap.size + 1 = br := by omega
  obtain ⟨a0, cp0, rfl⟩ := h.2.form
  have hkA : Keeps [] w ((w.alloc (.cells #[.pointer (some ⟨br, 0, none⟩)] 57)).alloc (.cells #[.bool false] 4)) := ((Keeps.refl [] w).alloc _).alloc _
  have hc := bool1_bad _ br w.heap.size (w.heap.size + 1) _ l (h.keeps hkA) (by simp) hr
  have h2 := two_boxesB w (.pointer (some ⟨br, 0, none⟩))
  replace h2 := Lib.hid h2
  replace h := Lib.hid h
  replace hkA := Lib.hid hkA
  replace hc := Lib.hid hc
  replace hr := Lib.hid hr
  clear c0
  go_enter Tryz.func30, Tryz.ntmps30
  go_wp2_with (first
    | (go_at_call 80; refine hc.out.mono ?_; rintro e w3 ⟨rfl, hk3⟩; have hR3 := (h.out.keeps hkA.out).keeps hk3; obtain ⟨d0, d1, g0, g1, hlt3⟩ := cell2_of hR3.1; have hk4 := Lib.hid hk3; have hR4 := Lib.hid hR3; have h22 := Lib.hid ((hk3.block _ (by simp) (by simp)).trans h2.out); obtain ⟨e0, _, hlt4⟩ := cell1_of h22.out; clear hk3 hR3)
    | go_in)
  go_ret
  exact ⟨rfl, rd_set_bad hR4.out 11, (((hkA.out.trans hk4.out).of_nil).setCell (.inr (by simp)) _).setCell (.inr (by simp)) _⟩
set_option maxRecDepth 100000 in
set_option maxHeartbeats 2000000 in
theorem bool_err (w : World) (br : Nat) (v : Value) (l : List UInt8) (e : Int) (h : Rd w br v l e) (he : e ≠ 0) :
    Calls Tryz.prog 30 #[.pointer (some ⟨br, 0, none⟩)] w fun en w' => en = .returned (.bool false) ∧ Keeps [] w w' := by
  obtain ⟨c0, c1, f0, f1, hlt⟩ := cell2_of h.1
  have hne : ¬ w.heap.size = br := by omega
  have hne2 : ¬ w.heap.size + 1 = br := by omega
  have he2 : (e == 0) = false := by simp [he]
  obtain ⟨a0, cp0, rfl⟩ := h.2.form
  have hkA : Keeps [] w ((w.alloc (.cells #[.pointer (some ⟨br, 0, none⟩)] 57)).alloc (.cells #[.bool false] 4)) := ((Keeps.refl [] w).alloc _).alloc _
  clear h c0 he
  go_enter Tryz.func30, Tryz.ntmps30
  go_wp2_with (first | go_in)
  go_ret
  exact ⟨rfl, hkA⟩
theorem boolS_c (w : World) (br : Nat) (s : RS) (h : RdS w br s) :
    Calls Tryz.prog 30 #[.pointer (some ⟨br, 0, none⟩)] w fun en w' => en = .returned (.bool (rB s).1) ∧ RdS w' br (rB s).2 ∧ Keeps [br] w w' := by
  obtain ⟨l, e⟩ := s
  obtain ⟨v, h⟩ := h
  by_cases he : e = 0
  · subst he
    cases hr : readB l with
    | none =>
      rw [show rB (l, 0) = (false, ([], 11)) by unfold rB; rw [if_pos rfl]; simp only [hr]]
      exact (bool_bad w br v l h hr).mono fun _ _ ⟨h1, h2, h3⟩ => ⟨h1, ⟨_, h2⟩, h3⟩
    | some p =>
      obtain ⟨x, r⟩ := p
      rw [show rB (l, 0) = (x, (r, 0)) by unfold rB; rw [if_pos rfl]; simp only [hr]]
      exact bool_ok w br v l r x h hr
  · refine (bool_err w br v l e h he).mono fun en w' ⟨h1, h2⟩ => ?_
    rw [show rB (l, e) = (false, (l, e)) by unfold rB; rw [if_neg he]]
    exact ⟨h1, ⟨v, h.keeps h2⟩, h2.of_nil⟩
end Go.Proofs.YtiplgpefapeapaaGreat

namespace Go.Proofs.YtiplgpefapeapaaGreat
open Go.RowKit

def cEK (K n : Nat) (l : List UInt8) : Int := if K < n then 8 else if l.length < n then 11 else 0
def rCK (K : Nat) (l : List UInt8) : Nat × RS := match readU l with | some (n, r) => if cEK K n r = 0 then (n, (r, 0)) else (0, ([], cEK K n r)) | none => (0, ([], 11))
theorem rCK_le (K : Nat) (l : List UInt8) : (rCK K l).1 ≤ K := by
  unfold rCK
  split
  · rename_i n r _
    split
    · rename_i h
      unfold cEK at h
      split at h
      · cases h
      · show n ≤ K
        omega
    · simp
  · simp
set_option maxRecDepth 100000 in
set_option maxHeartbeats 2000000 in
theorem countG1_c (K : Nat) (hK : K ≤ 1099511627776) (w : World) (br b1 b2 b3 : Nat) (v : Value) (l : List UInt8) (n : Nat) (h : Rd w br v l 0) (h1 : w.cell? ⟨b1, 0, none⟩ = some (.int .i64 (K : Nat))) (h2 : w.cell? ⟨b2, 0, none⟩ = some (.int .u64 n)) (h3 : w.cell? ⟨b3, 0, none⟩ = some (.pointer (some ⟨br, 0, none⟩))) :
    Calls Tryz.prog 107 #[.pointer (some ⟨b1, 0, none⟩), .pointer (some ⟨b2, 0, none⟩), .pointer (some ⟨b3, 0, none⟩)] w fun en w' => en = .returned (.int .i64 (cEK K n l)) ∧ Keeps [] w w' := by
  obtain ⟨c0, c1, f0, f1, hlt⟩ := cell2_of h.1
  obtain ⟨a0, cp0, rfl⟩ := h.2.form
  have hmx := h.2.cap
  clear h
  obtain ⟨N, hN⟩ : ∃ N, l.length = N := ⟨_, rfl⟩
  rw [hN] at c0 hmx
  have hNN : (N : Int) ≤ 9223372036854775807 := by unfold maxLen at hmx; omega
  replace hN := Lib.hid hN
  have hKw : IntKind.u64.wrap (K : Int) = K := by rw [IntKind.wrap_u64]; omega
  have hK0 : decide ((K : Int) < 0) = false := by simp
  have hwr : IntKind.u64.wrap (N : Int) = N := by rw [IntKind.wrap_u64]; omega
  by_cases hbig : K < n
  · have hd : (K : Int) < (n : Int) := by omega
    go_enter Tryz.func107, Tryz.ntmps107
    go_wp2
    go_ret
    exact ⟨by unfold cEK; rw [if_pos hbig]; rfl, Keeps.refl _ _⟩
  · have hd : decide ((K : Int) < (n : Int)) = false := by simp; omega
    by_cases hb2 : N < n
    · have hd2 : (N : Int) < (n : Int) := by omega
      go_enter Tryz.func107, Tryz.ntmps107
      go_wp2
      (refine wp_region_quiet_lit (by kernel_rfl) (by kernel_rfl) ?_; (repeat (first | go_big_quiet_step (fail) | quiet_step (fail))); with_reducible refine wpQuiet_nil ?_; intro _ hw'; obtain ⟨nq, hw''⟩ := hw'; subst hw'')
      go_wp2
      go_ret
      exact ⟨by unfold cEK; rw [if_neg hbig, hN.out, if_pos hb2]; rfl, (Keeps.refl _ _).drewN _⟩
    · have hd2 : decide ((N : Int) < (n : Int)) = false := by simp; omega
      go_enter Tryz.func107, Tryz.ntmps107
      go_wp2
      (refine wp_region_quiet_lit (by kernel_rfl) (by kernel_rfl) ?_; (repeat (first | go_big_quiet_step (fail) | quiet_step (fail))); with_reducible refine wpQuiet_nil ?_; intro _ hw'; obtain ⟨nq, hw''⟩ := hw'; subst hw'')
      go_wp2
      go_ret
      exact ⟨by unfold cEK; rw [if_neg hbig, hN.out, if_neg hb2]; rfl, (Keeps.refl _ _).drewN _⟩
set_option maxRecDepth 100000 in
set_option maxHeartbeats 2000000 in
theorem countG_bad (K : Nat) (hK : K ≤ 1099511627776) (w : World) (br : Nat) (v : Value) (l : List UInt8) (h : Rd w br v l 0) (hr : readU l = none) :
    Calls Tryz.prog 79 #[.pointer (some ⟨br, 0, none⟩), .int .i64 (K : Nat)] w fun en w' => en = .returned (.int .i64 0) ∧ Rd w' br (.slice none 0 0) [] 11 ∧ Keeps [br] w w' := by
  have hlt := (cell2_of h.1).2.2.2.2
  have hne : ¬ w.heap.size = br := by omega
  have hne2 : ¬ w.heap.size + 1 = br := by omega
  have hkA : Keeps [] w ((w.alloc (.cells #[.pointer (some ⟨br, 0, none⟩)] 57)).alloc (.cells #[.int .i64 (K : Nat)] 3)) := ((Keeps.refl [] w).alloc _).alloc _
  have hx1 := heap_alloc_new w (.cells #[.pointer (some ⟨br, 0, none⟩)] 57)
  have hx2 := (((Keeps.refl [] (w.alloc (.cells #[.pointer (some ⟨br, 0, none⟩)] 57))).alloc (.cells #[.int .i64 (K : Nat)] 3)).block _ (lt_of_block hx1) (by simp)).trans hx1
  have hRA := h.keeps hkA
  replace hRA := Lib.hid hRA
  replace hkA := Lib.hid hkA
  replace hr := Lib.hid hr
  clear h hx1
  go_enter Tryz.func79, Tryz.ntmps79
  go_wp2_with fail
  refine (uint_bad _ br v l hRA.out hr.out).mono ?_
  rintro e w1 ⟨rfl, hR1, hk1⟩
  have hx3 := (hk1.block _ (lt_of_block hx2) (by simpa using hne)).trans hx2
  obtain ⟨z0, zf, zlt⟩ := cell1_of hx3
  have hk01 := Lib.hid (hkA.out.of_nil.trans hk1)
  obtain ⟨c0, c1, f0, f1, hlt1⟩ := cell2_of hR1.1
  have hkB : Keeps [] w1 (w1.alloc (.cells #[.int .u64 0] 26)) := (Keeps.refl [] w1).alloc _
  have hne3 : ¬ w1.heap.size = br := by omega
  have hne4 : ¬ w1.heap.size = w.heap.size := by omega
  replace hR1 := Lib.hid hR1
  replace hkB := Lib.hid hkB
  clear hk1 hx2 hx3
  go_wp2_with (first | go_in)
  go_ret
  exact ⟨rfl, hR1.out.keeps hkB.out, hk01.out.trans hkB.out.of_nil⟩
set_option maxRecDepth 100000 in
set_option maxHeartbeats 4000000 in
theorem countG_ok (K : Nat) (hK : K ≤ 1099511627776) (w : World) (br : Nat) (v : Value) (l r : List UInt8) (n : Nat) (h : Rd w br v l 0) (hr : readU l = some (n, r)) (hn : n < 18446744073709551616) :
    Calls Tryz.prog 79 #[.pointer (some ⟨br, 0, none⟩), .int .i64 (K : Nat)] w fun en w' => en = .returned (.int .i64 (rCK K l).1) ∧ RdS w' br (rCK K l).2 ∧ Keeps [br] w w' := by
  have hrc : rCK K l = if cEK K n r = 0 then (n, (r, 0)) else (0, ([], cEK K n r)) := by unfold rCK; simp only [hr]
  have hlt := (cell2_of h.1).2.2.2.2
  have hne : ¬ w.heap.size = br := by omega
  have hne2 : ¬ w.heap.size + 1 = br := by omega
  have hkA : Keeps [] w ((w.alloc (.cells #[.pointer (some ⟨br, 0, none⟩)] 57)).alloc (.cells #[.int .i64 (K : Nat)] 3)) := ((Keeps.refl [] w).alloc _).alloc _
  have hx1 := heap_alloc_new w (.cells #[.pointer (some ⟨br, 0, none⟩)] 57)
  have hx2 := (((Keeps.refl [] (w.alloc (.cells #[.pointer (some ⟨br, 0, none⟩)] 57))).alloc (.cells #[.int .i64 (K : Nat)] 3)).block _ (lt_of_block hx1) (by simp)).trans hx1
  have hm2 := heap_alloc_new (w.alloc (.cells #[.pointer (some ⟨br, 0, none⟩)] 57)) (.cells #[.int .i64 (K : Nat)] 3)
  rw [show (w.alloc (.cells #[.pointer (some ⟨br, 0, none⟩)] 57)).heap.size = w.heap.size + 1 by simp] at hm2
  have hRA := h.keeps hkA
  replace hRA := Lib.hid hRA
  replace hkA := Lib.hid hkA
  replace hr := Lib.hid hr
  replace hrc := Lib.hid hrc
  clear h hx1
  go_enter Tryz.func79, Tryz.ntmps79
  go_wp2_with fail
  refine (uint_ok _ br v l r n hRA.out hr.out).mono ?_
  rintro e w1 ⟨rfl, ⟨v1, hR1⟩, hk1⟩
  have hx3 := (hk1.block _ (lt_of_block hx2) (by simpa using hne)).trans hx2
  have hm3 := (hk1.block _ (lt_of_block hm2) (by simpa using hne2)).trans hm2
  have hkB : Keeps [] w1 (w1.alloc (.cells #[.int .u64 n] 26)) := (Keeps.refl [] w1).alloc _
  have hx4 := (hkB.block _ (lt_of_block hx3) (by simp)).trans hx3
  have hm4 := (hkB.block _ (lt_of_block hm3) (by simp)).trans hm3
  have hn4 := heap_alloc_new w1 (.cells #[.int .u64 n] 26)
  have hR2 := hR1.keeps hkB
  have hk02 := hkA.out.of_nil.trans (hk1.trans hkB.of_nil)
  obtain ⟨z0, zf, zlt⟩ := cell1_of hx3
  obtain ⟨q0, qf, qlt⟩ := cell1_of hn4
  obtain ⟨c0, c1, f0, f1, hlt1⟩ := cell2_of hR1.1
  have hne3 : ¬ w1.heap.size = br := by omega
  have hne4 : ¬ w1.heap.size = w.heap.size := by omega
  have hc := countG1_c K hK _ br (w.heap.size + 1) w1.heap.size w.heap.size v1 r n hR2 (cell1_of hm4).1 q0 (cell1_of hx4).1
  obtain ⟨E, hE⟩ : ∃ E, cEK K n r = E := ⟨_, rfl⟩
  obtain ⟨a1, cp1, rfl⟩ := hR1.2.form
  rw [hE] at hc
  by_cases hE0 : E = 0
  · subst hE0
    have hn63 : (n : Int) ≤ K := by
      unfold cEK at hE
      split at hE
      · cases hE
      · omega
    replace hE := Lib.hid hE
    replace hR1 := Lib.hid hR1
    replace hR2 := Lib.hid hR2
    replace hkB := Lib.hid hkB
    replace hk02 := Lib.hid hk02
    replace hc := Lib.hid hc
    replace hn4 := Lib.hid hn4
    clear hk1 hx2 hx3 hx4 hm2 hm3 hm4 c0 q0 qf qlt
    go_wp2_with (first
      | (go_at_call 107; refine hc.out.mono ?_; rintro e w3 ⟨rfl, hk3⟩; have hR3 := hR2.out.keeps hk3; obtain ⟨d0, d1, g0, g1, hlt3⟩ := cell2_of hR3.1; have hk4 := Lib.hid hk3; have hR4 := Lib.hid hR3; have hn5 := Lib.hid ((hk3.block _ (lt_of_block hn4.out) (by simp)).trans hn4.out); obtain ⟨e0, _, hlt4⟩ := cell1_of hn5.out; clear hk3 hR3)
      | go_in)
    go_ret
    rw [hrc.out, if_pos hE.out]
    exact ⟨rfl, ⟨_, rd_set_ok hR4.out 0⟩, (hk02.out.trans hk4.out.of_nil).setCell (.inr (by simp)) _⟩
  · have hEb : (E == 0) = false := by simp [hE0]
    replace hE0 := Lib.hid hE0
    replace hE := Lib.hid hE
    replace hR1 := Lib.hid hR1
    replace hR2 := Lib.hid hR2
    replace hkB := Lib.hid hkB
    replace hk02 := Lib.hid hk02
    replace hc := Lib.hid hc
    replace hn4 := Lib.hid hn4
    clear hk1 hx2 hx3 hx4 hm2 hm3 hm4 c0 q0 qf qlt
    go_wp2_with (first
      | (go_at_call 107; refine hc.out.mono ?_; rintro e w3 ⟨rfl, hk3⟩; have hR3 := hR2.out.keeps hk3; obtain ⟨d0, d1, g0, g1, hlt3⟩ := cell2_of hR3.1; have hk4 := Lib.hid hk3; have hR4 := Lib.hid hR3; have hn5 := Lib.hid ((hk3.block _ (lt_of_block hn4.out) (by simp)).trans hn4.out); obtain ⟨e0, _, hlt4⟩ := cell1_of hn5.out; clear hk3 hR3)
      | go_in)
    go_ret
    rw [hrc.out, if_neg (by rw [hE.out]; exact hE0.out)]
    refine ⟨rfl, ⟨.slice none 0 0, ?_⟩, ((hk02.out.trans hk4.out.of_nil).setCell (.inr (by simp)) _).setCell (.inr (by simp)) _⟩
    rw [hE.out]
    exact rd_set_bad hR4.out E
theorem readU_lt {l r : List UInt8} {n : Nat} (h : readU l = some (n, r)) : n < 18446744073709551616 := by
  cases l with
  | nil => cases h
  | cons k t =>
    rcases Classical.em (k.toNat ≤ 8 ∧ k.toNat ≤ t.length ∧ (0 < k.toNat → t.headD 1 ≠ 0)) with hc | hc
    · rw [readU, if_pos hc] at h
      simp only [Option.some.injEq, Prod.mk.injEq] at h
      rw [← h.1]
      have := valU_lt k.toNat (t.take k.toNat) (by rw [List.length_take]; omega)
      have h2 : (256 : Nat) ^ k.toNat ≤ 256 ^ 8 := Nat.pow_le_pow_right (by omega) hc.1
      omega
    · rw [readU, if_neg hc] at h; cases h
theorem countG_c (K : Nat) (hK : K ≤ 1099511627776) (w : World) (br : Nat) (l : List UInt8) (h : RdS w br (l, 0)) :
    Calls Tryz.prog 79 #[.pointer (some ⟨br, 0, none⟩), .int .i64 (K : Nat)] w fun en w' => en = .returned (.int .i64 (rCK K l).1) ∧ RdS w' br (rCK K l).2 ∧ Keeps [br] w w' := by
  obtain ⟨v, h⟩ := h
  cases hr : readU l with
  | none =>
    rw [show rCK K l = (0, ([], 11)) by unfold rCK; simp only [hr]]
    exact (countG_bad K hK w br v l h hr).mono fun _ _ ⟨h1, h2, h3⟩ => ⟨h1, ⟨_, h2⟩, h3⟩
  | some p =>
    obtain ⟨n, r⟩ := p
    exact countG_ok K hK w br v l r n h hr (readU_lt hr)
theorem doneS_c (w : World) (br : Nat) (s : RS) (h : RdS w br s) :
    Calls Tryz.prog 36 #[.pointer (some ⟨br, 0, none⟩)] w fun en w' => en = .returned (.int .i64 (doneE s.1 s.2)) ∧ w = w' := by
  obtain ⟨v, h⟩ := h
  exact done_c w br v s.1 s.2 h
end Go.Proofs.YtiplgpefapeapaaGreat

namespace Go.Proofs.YtiplgpefapeapaaGreat
open Go.RowKit Go.ChangeShapes

/-- The integer that a number on the wire stands for. -/
def uzig (n : Nat) : Int := if n % 2 = 0 then ((n / 2 : Nat) : Int) else -((n / 2 : Nat) : Int) - 1
theorem uzig_zig (n : Int) : uzig (zig n) = n := by unfold uzig zig; split <;> split <;> omega
theorem uzig_fit {n : Nat} (h : n < 18446744073709551616) : W64 (uzig n) := by
  unfold uzig
  split <;> exact w64_iff.2 ⟨by omega, by omega⟩
def rI (s : RS) : Int × RS := (uzig (rU s).1, (rU s).2)
theorem rU_lt (s : RS) : (rU s).1 < 18446744073709551616 := by
  unfold rU
  split
  · split
    · rename_i x r h; exact readU_lt h
    · show (0 : Nat) < _; decide
  · show (0 : Nat) < _; decide
theorem rI_fit (s : RS) : W64 (rI s).1 := uzig_fit (rU_lt s)
theorem xor_zero (k : Nat) (hk : k < 9223372036854775808) : bits .xor .i64 (k : Int) 0 = k := by
  show IntKind.i64.wrap ((BitVec.ofInt 64 (k : Int) ^^^ BitVec.ofInt 64 0).toNat : Int) = _
  have h2 : (BitVec.ofInt 64 (k : Int)).toNat = k := by
    rw [BitVec.ofInt_natCast, BitVec.toNat_ofNat]; exact Nat.mod_eq_of_lt (by omega)
  have h3 : (BitVec.ofInt 64 0).toNat = 0 := by decide
  rw [BitVec.toNat_xor, h2, h3, Nat.xor_zero, IntKind.wrap_i64]
  omega
theorem xor_ones (k : Nat) (hk : k < 9223372036854775808) : bits .xor .i64 (k : Int) (-1) = -(k : Int) - 1 := by
  have h := Go.Lib.i64_not k hk
  rw [← h]
  simp only [bits, BitVec.xor_comm]
set_option maxRecDepth 100000 in
set_option maxHeartbeats 2000000 in
theorem intS_c (w : World) (br : Nat) (s : RS) (h : RdS w br s) :
    Calls Tryz.prog 25 #[.pointer (some ⟨br, 0, none⟩)] w fun en w' => en = .returned (.int .i64 (rI s).1) ∧ RdS w' br (rI s).2 ∧ Keeps [br] w w' := by
  have hc := uintS_c w br s h
  have hx := rU_lt s
  unfold rI
  simp only
  generalize (rU s).1 = n at *
  generalize (rU s).2 = s2 at *
  replace hc := Lib.hid hc
  clear h
  by_cases h0 : n % 2 = 0
  · obtain ⟨k, rfl⟩ : ∃ k, n = 2 * k := ⟨n / 2, by omega⟩
    have hu : uzig (2 * k) = k := by unfold uzig; rw [if_pos h0]; omega
    have hb : bits .and .u64 (2 * (k : Int)) 1 = 0 := by rw [Go.Lib.u64_and1 _ (by omega) (by omega)]; omega
    have hb2 : bits .xor .i64 (k : Int) 0 = k := xor_zero k (by omega)
    rw [hu]
    go_enter Tryz.func25, Tryz.ntmps25
    go_wp2_with fail
    refine hc.out.mono ?_
    rintro e w' ⟨rfl, hR, hk⟩
    replace hR := Lib.hid hR
    replace hk := Lib.hid hk
    go_wp2
    go_ret
    exact ⟨rfl, hR.out, hk.out⟩
  · obtain ⟨k, rfl⟩ : ∃ k, n = 2 * k + 1 := ⟨n / 2, by omega⟩
    have hu : uzig (2 * k + 1) = -(k : Int) - 1 := by unfold uzig; rw [if_neg h0]; omega
    have hb : bits .and .u64 (2 * (k : Int) + 1) 1 = 1 := by rw [Go.Lib.u64_and1 _ (by omega) (by omega)]; omega
    have hb2 : bits .xor .i64 ((2 * (k : Int) + 1) / 2) (-1) = -(k : Int) - 1 := by
      rw [show (2 * (k : Int) + 1) / 2 = k by omega]
      exact xor_ones k (by omega)
    rw [hu]
    go_enter Tryz.func25, Tryz.ntmps25
    go_wp2_with fail
    refine hc.out.mono ?_
    rintro e w' ⟨rfl, hR, hk⟩
    replace hR := Lib.hid hR
    replace hk := Lib.hid hk
    go_wp2
    go_ret
    exact ⟨rfl, hR.out, hk.out⟩
def rCS (K : Nat) (s : RS) : Nat × RS := if s.2 = 0 then rCK K s.1 else (0, s)
theorem rCS_le (K : Nat) (s : RS) : (rCS K s).1 ≤ K := by
  unfold rCS
  split
  · exact rCK_le K s.1
  · simp
set_option maxRecDepth 100000 in
set_option maxHeartbeats 2000000 in
theorem countG_err (K : Nat) (w : World) (br : Nat) (v : Value) (l : List UInt8) (e : Int) (h : Rd w br v l e) (he : e ≠ 0) :
    Calls Tryz.prog 79 #[.pointer (some ⟨br, 0, none⟩), .int .i64 (K : Nat)] w fun en w' => en = .returned (.int .i64 0) ∧ Keeps [] w w' := by
  have hlt := (cell2_of h.1).2.2.2.2
  have hne : ¬ w.heap.size = br := by omega
  have hne2 : ¬ w.heap.size + 1 = br := by omega
  have he2 : (e == 0) = false := by simp [he]
  obtain ⟨a0, cp0, rfl⟩ := h.2.form
  have hkA : Keeps [] w ((w.alloc (.cells #[.pointer (some ⟨br, 0, none⟩)] 57)).alloc (.cells #[.int .i64 (K : Nat)] 3)) := ((Keeps.refl [] w).alloc _).alloc _
  have hx1 := heap_alloc_new w (.cells #[.pointer (some ⟨br, 0, none⟩)] 57)
  have hx2 := (((Keeps.refl [] (w.alloc (.cells #[.pointer (some ⟨br, 0, none⟩)] 57))).alloc (.cells #[.int .i64 (K : Nat)] 3)).block _ (lt_of_block hx1) (by simp)).trans hx1
  have hRA := h.keeps hkA
  replace hRA := Lib.hid hRA
  replace hkA := Lib.hid hkA
  replace he := Lib.hid he
  clear h hx1
  go_enter Tryz.func79, Tryz.ntmps79
  go_wp2_with fail
  refine (uint_err _ br _ l e hRA.out he.out).mono ?_
  rintro en w1 ⟨rfl, hk1⟩
  have hR1 := hRA.out.keeps hk1
  have hx3 := (hk1.block _ (lt_of_block hx2) (by simp)).trans hx2
  obtain ⟨z0, zf, zlt⟩ := cell1_of hx3
  have hk01 := Lib.hid (hkA.out.trans hk1)
  obtain ⟨c0, c1, f0, f1, hlt1⟩ := cell2_of hR1.1
  have hkB : Keeps [] w1 (w1.alloc (.cells #[.int .u64 0] 26)) := (Keeps.refl [] w1).alloc _
  have hne3 : ¬ w1.heap.size = br := by omega
  have hne4 : ¬ w1.heap.size = w.heap.size := by omega
  replace hkB := Lib.hid hkB
  clear hk1 hx2 hx3 hR1 hRA
  go_wp2_with (first | go_in)
  go_ret
  exact ⟨rfl, hk01.out.trans hkB.out⟩
theorem countS_c (K : Nat) (hK : K ≤ 1099511627776) (w : World) (br : Nat) (s : RS) (h : RdS w br s) :
    Calls Tryz.prog 79 #[.pointer (some ⟨br, 0, none⟩), .int .i64 (K : Nat)] w fun en w' => en = .returned (.int .i64 (rCS K s).1) ∧ RdS w' br (rCS K s).2 ∧ Keeps [br] w w' := by
  obtain ⟨l, e⟩ := s
  by_cases he : e = 0
  · subst he
    rw [show rCS K (l, 0) = rCK K l from if_pos rfl]
    exact countG_c K hK w br l h
  · obtain ⟨v, h⟩ := h
    rw [show rCS K (l, e) = (0, (l, e)) from if_neg he]
    exact (countG_err K w br v l e h he).mono fun en w' ⟨h1, h2⟩ => ⟨h1, ⟨v, h.keeps h2⟩, h2.of_nil⟩
end Go.Proofs.YtiplgpefapeapaaGreat

namespace Go.Proofs.YtiplgpefapeapaaGreat
open Go.RowKit Go.ChangeShapes

def encX (x : T3) : List UInt8 := encI x.1 ++ encU x.2.1 ++ encI x.2.2
def encA0 (a : Ans) : List UInt8 := encI a.m ++ encI a.ow ++ encU a.n ++ encI a.ep ++ encB a.kn ++ encB a.rt ++ encI a.lu ++ encU a.ins.length
def encXs (L : List T3) : List UInt8 := (L.map encX).flatten
def encA (a : Ans) : List UInt8 := encA0 a ++ encXs a.ins
def encH (L : List Ans) : List UInt8 := (L.map encA).flatten
theorem encXs_take (L : List T3) (k : Nat) (hk : k < L.length) : encXs (L.take (k + 1)) = encXs (L.take k) ++ encX L[k] := by
  unfold encXs
  rw [List.take_succ_eq_append_getElem hk, List.map_append, List.flatten_append]
  simp
theorem encH_take (L : List Ans) (k : Nat) (hk : k < L.length) : encH (L.take (k + 1)) = encH (L.take k) ++ encA L[k] := by
  unfold encH
  rw [List.take_succ_eq_append_getElem hk, List.map_append, List.flatten_append]
  simp
/-- Numbers that fit. -/
structure InsFit (x : T3) : Prop where
  a : W64 x.1
  n : x.2.1 < 18446744073709551616
  c : W64 x.2.2
theorem encX_len {x : T3} (h : InsFit x) : (encX x).length ≤ 27 := by
  have h1 := encI_len h.a
  have h2 := encU_len h.n
  have h3 := encI_len h.c
  simp only [encX, List.length_append]
  omega
theorem encXs_len : ∀ {L : List T3}, (∀ x ∈ L, InsFit x) → (encXs L).length ≤ 27 * L.length
  | [], _ => by simp [encXs]
  | x :: L, h => by
    have h1 := encX_len (h x (by simp))
    have h2 := encXs_len (L := L) (fun y hy => h y (by simp [hy]))
    simp only [encXs, List.map_cons, List.flatten_cons, List.length_append, List.length_cons] at h2 ⊢
    omega
theorem Ans.Ok.fitI {a : Ans} (h : a.Ok) : ∀ x ∈ a.ins, InsFit x := fun x hx => ⟨(h.ins x hx).1, (h.ins x hx).2.1, (h.ins x hx).2.2⟩
theorem encA0_len {a : Ans} (h : a.Ok) : (encA0 a).length ≤ 56 := by
  have h1 := encI_len h.q.1
  have h2 := encI_len h.q.2.1
  have h3 := encU_len h.q.2.2
  have h4 := encI_len h.ep
  have h5 := encI_len h.lu
  have h6 := encU_len (n := a.ins.length) (by have := h.len; omega)
  simp only [encA0, encB, List.length_append, List.length_cons, List.length_nil, Ans.q] at h1 h2 h3 ⊢
  omega
theorem encA_len {a : Ans} (h : a.Ok) (hi : a.ins.length ≤ 1000) : (encA a).length ≤ 27100 := by
  have h1 := encA0_len h
  have h2 := encXs_len h.fitI
  simp only [encA, List.length_append]
  omega
theorem encH_len : ∀ {L : List Ans}, (∀ a ∈ L, a.Ok ∧ a.ins.length ≤ 1000) → (encH L).length ≤ 27100 * L.length
  | [], _ => by simp [encH]
  | a :: L, h => by
    have h1 := encA_len (h a (by simp)).1 (h a (by simp)).2
    have h2 := encH_len (L := L) (fun y hy => h y (by simp [hy]))
    simp only [encH, List.map_cons, List.flatten_cons, List.length_append, List.length_cons] at h2 ⊢
    omega
/-- The trace's own numbers fit. -/
structure Tr.Num (t : Tr) : Prop where
  im : W64 t.im
  is : W64 t.is
  s0 : W64 t.st.1
  s1 : t.st.2.1 < 18446744073709551616
  s2 : W64 t.st.2.2
theorem csZ : ∀ zs : List Int, shZ.cs zs = zs.map (.int .i64)
  | [] => rfl
  | z :: zs => by
    show shZ.cf z ++ shZ.cs zs = _
    rw [csZ zs]
    rfl
end Go.Proofs.YtiplgpefapeapaaGreat

namespace Go.Proofs.YtiplgpefapeapaaGreat
open Go.RowKit
def PendPost (w : World) (t : Tr) (m : Int) (e : Ending) (w' : World) : Prop :=
  ∃ r : Int, e = .returned (.int .i64 r) ∧ Keeps [] w w' ∧ ((t.state ≠ 1 ∧ r = 9) ∨ (t.state = 1 ∧ ∃ P Y p, SortedA t Y ∧ ClaimsP t Y P ∧ P[t.ag.length]? = some p ∧ r = (if p.m = m then 0 else 1)))
set_option maxRecDepth 100000 in
set_option maxHeartbeats 4000000 in
theorem pending_c (w : World) (B bt bm : Nat) (vo vh vg : Value) (t : Tr) (m : Int) (h : TrM w B bt bm vo vh vg t) (hl : t.qs.length ≤ 1000) (hag : t.state = 1 → ∀ P Y, SortedA t Y → ClaimsP t Y P → t.ag.length < P.length) :
    Calls Tryz.prog 64 #[.pointer (some ⟨bt, 0, none⟩), .int .i64 m] w (PendPost w t m) := by
  have hc := claim_c w B bt bm vo vh vg t h hl hag
  replace hc := Lib.hid hc
  clear h hag
  go_enter Tryz.func64, Tryz.ntmps64
  go_wp2_with fail
  refine hc.out.mono ?_
  rintro e w1 ⟨⟨x0, x1, ⟨a1, a2, a3⟩, ⟨b1, b2, b3⟩, ⟨c1, c2, c3⟩⟩, p, rfl, hcr, hk, hcase⟩
  have hx : x0 = p.m := hcr.m
  subst hx
  simp only [clV, slv]
  replace hk := Lib.hid hk
  clear hcr
  by_cases hs : t.state = 1
  · have b : (t.state == 1) = true := by simpa using hs
    have hcase2 : ∃ P Y, SortedA t Y ∧ ClaimsP t Y P ∧ P[t.ag.length]? = some p := by
      rcases hcase with ⟨h1, _⟩ | ⟨_, h2⟩
      · exact absurd hs h1
      · exact h2
    rw [b]
    replace hcase2 := Lib.hid hcase2
    replace hs := Lib.hid hs
    clear hcase b
    by_cases hm : p.m = m
    · subst hm
      go_wp2
      go_ret
      obtain ⟨P, Y, h1, h2, h3⟩ := hcase2.out
      exact ⟨0, rfl, hk.out.alloc _, .inr ⟨hs.out, P, Y, p, h1, h2, h3, (if_pos rfl).symm⟩⟩
    · have bm : (p.m != m) = true := by simpa using hm
      go_wp2
      go_ret
      obtain ⟨P, Y, h1, h2, h3⟩ := hcase2.out
      exact ⟨1, rfl, hk.out.alloc _, .inr ⟨hs.out, P, Y, p, h1, h2, h3, (if_neg hm).symm⟩⟩
  · have b : (t.state == 1) = false := by simpa using hs
    rw [b]
    replace hs := Lib.hid hs
    clear hcase b
    go_wp2
    go_ret
    exact ⟨9, rfl, hk.out.alloc _, .inl ⟨hs.out, rfl⟩⟩
end Go.Proofs.YtiplgpefapeapaaGreat

namespace Go.Proofs.YtiplgpefapeapaaGreat
open Go.RowKit

def Tr.agreeT (t : Tr) (m : Int) : Tr × Int :=
  if t.state ≠ 1 then (t, 9) else match t.clm[t.ag.length]? with
  | some p => if p.m ≠ m then (t, 1) else ({ t with ag := t.ag ++ [m], state := if t.ag.length + 1 = t.clm.length then 2 else t.state }, 0)
  | none => (t, 0)
def Tr.refuseT (t : Tr) (m : Int) : Tr × Int :=
  if t.state ≠ 1 then (t, 9) else match t.clm[t.ag.length]? with
  | some p => if p.m ≠ m then (t, 1) else ({ t with state := 4, rf := true }, 0)
  | none => (t, 0)
end Go.Proofs.YtiplgpefapeapaaGreat

namespace Go.Proofs.YtiplgpefapeapaaGreat
open Go.RowKit
namespace TrM
variable {w w' : World} {B bt bm : Nat} {vo vh vg : Value} {t : Tr}
theorem setAg (h : TrM w B bt bm vo vh vg t) {vg' : Value} {m : Int} (hG : Grw w w' vg vg') (hO : shZ.O w' B 3 vg' (t.ag ++ [m])) :
    TrM (w'.setCell ⟨bt, 10, none⟩ vg') B bt bm vo vh vg' { t with ag := t.ag ++ [m] } ∧ Keeps [bt] w' (w'.setCell ⟨bt, 10, none⟩ vg') ∧ KI w w' ∧ KI w' (w'.setCell ⟨bt, 10, none⟩ vg') := by
  obtain ⟨n1, n2, n3, n4⟩ := h.ne_bt
  obtain ⟨X0, hX0, hX0L⟩ := h.hi
  obtain ⟨R, hR, hRL⟩ := h.mp
  have hk := hG.keepsO
  have hi : KI w w' := hk.ki (fun b hb cs f e => by
    obtain ⟨cs', hc⟩ := h.ag.tag b (by simpa using hb)
    exact tag_ne hc e (by decide) rfl)
  have hne : ∀ (e : TypeId) (b : Nat) (cs : Array Value), w.heap[b]? = some (Obj.cells cs e (0, 0)) → 3 ≠ e → b ∉ vg.ownBlock.toList := fun e b cs hb hn hm => by
    obtain ⟨cs', hc⟩ := h.ag.tag b (by simpa using hm)
    exact tag_ne hc hb hn rfl
  have hblk : w'.heap[bt]? = _ := (hk.block bt h.lt.1 (hne _ _ _ h.blk (by decide))).trans h.blk
  have hhi : shA.O w' B tA vh X0 := hX0.keepS hk (fun b hb e => by obtain ⟨cs, hc⟩ := hX0.tag b e; exact hne _ _ _ hc (by decide) hb)
  have hop : shQ.O w' B tQ vo t.op := h.op.keepS hk (fun b hb e => by obtain ⟨cs, hc⟩ := h.op.tag b e; exact hne _ _ _ hc (by decide) hb)
  have hR' : MapS.M ktQ aV w' bm R := hR.kept ktQ hk (fun hm => by
    obtain ⟨cs', hc⟩ := h.ag.tag bm (by simpa using hm)
    obtain ⟨es, c, hmm⟩ := hR.isMap
    rw [hc] at hmm; cases hmm)
  obtain ⟨hk2, hi2⟩ := Keeps.setT (o := 10) hblk vg'
  have hnv : vg'.ownBlock ≠ some bt := fun e => by
    obtain ⟨cs, hc⟩ := hO.tag bt e
    exact tag_ne hblk hc (by decide) rfl
  refine ⟨⟨?_, hop.keepS hk2 (by simpa using n2), ⟨X0, hhi.keepS hk2 (by simpa using n3), (hX0L.ki hi).ki hi2⟩, hO.keepS hk2 (by simpa using hnv), ⟨R, hR'.kept ktQ hk2 (by simpa using n1), (hRL.ki hi).ki hi2⟩, ⟨h.inv.ok, h.inv.nd, h.inv.rq, h.inv.rk, h.inv.hi, h.inv.ro⟩, h.bB⟩, hk2, hi, hi2⟩
  have := setCs hblk 10 vg'
  simpa using this
theorem mvAg {vg' : Value} {m : Int} (h : TrM w B bt bm vo vh vg t) (hG : Grw w w' vg vg') (hO : shZ.O w' B 3 vg' (t.ag ++ [m])) :
    Mv (ownT bt bm vo vh vg) (ownT bt bm vo vh vg') w (w'.setCell ⟨bt, 10, none⟩ vg') := by
  obtain ⟨_, hk, hi, hi2⟩ := h.setAg hG hO
  refine ⟨(hG.keepsO.mono (fun b hb => mem_ownT.2 (.inr (.inr (.inr (.inr (by simpa using hb))))))).trans (hk.mono (fun b hb => by simp at hb; subst hb; exact mem_ownT.2 (.inl rfl))), hi.trans hi2, fun b hb => ?_⟩
  rcases mem_ownT.1 hb with e | e | e | e | e
  · exact .inl (mem_ownT.2 (.inl e))
  · exact .inl (mem_ownT.2 (.inr (.inl e)))
  · exact .inl (mem_ownT.2 (.inr (.inr (.inl e))))
  · exact .inl (mem_ownT.2 (.inr (.inr (.inr (.inl e)))))
  · rcases hG.own with e2 | ⟨k, e2, hle⟩
    · exact .inl (mem_ownT.2 (.inr (.inr (.inr (.inr (e2 ▸ e))))))
    · rw [e2] at e; cases e; exact .inr hle
end TrM
/-- What agreeing leaves. -/
def AgrPost (w : World) (B bt bm : Nat) (vo vh vg : Value) (t : Tr) (m : Int) (e : Ending) (w' : World) : Prop :=
  ∃ vg', e = .returned (.int .i64 (t.agreeT m).2) ∧ TrM w' B bt bm vo vh vg' (t.agreeT m).1 ∧ Mv (ownT bt bm vo vh vg) (ownT bt bm vo vh vg') w w'
theorem AgrPost.of {w w' : World} {B bt bm : Nat} {vo vh vg vg' : Value} {t t' : Tr} {m r : Int} (he : t.agreeT m = (t', r)) (hT : TrM w' B bt bm vo vh vg' t') (hM : Mv (ownT bt bm vo vh vg) (ownT bt bm vo vh vg') w w') : AgrPost w B bt bm vo vh vg t m (.returned (.int .i64 r)) w' := by
  unfold AgrPost
  rw [he]
  exact ⟨vg', rfl, hT, hM⟩
set_option maxRecDepth 100000 in
set_option maxHeartbeats 4000000 in
theorem agree_c (w : World) (B bt bm : Nat) (vo vh vg : Value) (t : Tr) (m : Int) (h : TrM w B bt bm vo vh vg t) (hl : t.qs.length ≤ 1000) (hl2 : t.ag.length ≤ 1000) (hag : t.state = 1 → t.ag.length < t.clm.length) :
    Calls Tryz.prog 17 #[.pointer (some ⟨bt, 0, none⟩), .int .i64 m] w (AgrPost w B bt bm vo vh vg t m) := by
  have hc := pending_c w B bt bm vo vh vg t m h hl (fun hs P Y hY hP => by rw [Tr.clm_eq h.inv hY hP]; exact hag hs)
  have hinv := h.inv
  replace hc := Lib.hid hc
  replace h := Lib.hid h
  clear hag
  go_enter Tryz.func17, Tryz.ntmps17
  go_wp2_with fail
  refine hc.out.mono ?_
  rintro e w1 ⟨r, rfl, hk, hcase⟩
  have hT := h.out.keeps hk
  by_cases hr : r = 0
  · have hc2 : t.state = 1 ∧ ∃ p, t.clm[t.ag.length]? = some p ∧ p.m = m := by
      rcases hcase with ⟨_, h2⟩ | ⟨h1, P, Y, p, h2, h3, h4, h5⟩
      · omega
      · refine ⟨h1, p, ?_, ?_⟩
        · rw [← Tr.clm_eq hinv h2 h3]; exact h4
        · by_cases e : p.m = m
          · exact e
          · rw [if_neg e] at h5; omega
    obtain ⟨h1, p, h4, h5⟩ := hc2
    have hres : t.agreeT m = ({ t with ag := t.ag ++ [m], state := if t.ag.length + 1 = t.clm.length then 2 else t.state }, 0) := by
      unfold Tr.agreeT
      rw [if_neg (by simp [h1]), h4]
      simp only
      rw [if_neg (by simp [h5])]
    subst hr
    obtain ⟨ga, gc, rfl⟩ := hT.ag.form
    obtain ⟨LG, hLG⟩ : ∃ n, t.ag.length = n := ⟨_, rfl⟩
    rw [hLG] at hT ⊢
    have d10 := hT.cells.2.2.2.2.2.2.2.2.2.2.1
    have hfr := hT.free
    have hlt := hT.lt
    have hbB := hT.bB
    have hkA := (Keeps.refl [] w1).alloc (.cells #[.int .i64 m] 3)
    have hTA := hT.keeps hkA
    have hm1 := Sh.R.made shZ w1 [m] #[.int .i64 m] 3 rfl (by simp [maxLen]) 1 rfl
    have hsA : B ≤ (w1.alloc (.cells #[.int .i64 m] 3)).heap.size := by simp; omega
    have hOA := hTA.ag
    replace hTA := Lib.hid hTA
    replace hm1 := Lib.hid hm1
    replace hOA := Lib.hid hOA
    have hkw := Lib.hid (hk.trans hkA)
    replace hres := Lib.hid hres
    replace h1 := Lib.hid h1
    replace hLG := Lib.hid hLG
    clear hcase hT h4 h5 hk hkA hc
    go_upto_region 5 with (at_builtin; go_loud (refine Sh.wpl_app shZ B infoZ rfl Tryz.underlying98 (.slice ga LG gc) (.slice (some ⟨w1.heap.size, 0, none⟩) 1 1) t.ag [m] rfl _ _ rfl rfl rfl hOA.out hm1.out (by simp only [List.length_singleton]; omega) hsA ?_; intro v2 w2 hO2 hG2; have hS := hTA.out.setAg hG2 hO2; have hMv := hTA.out.mvAg hG2 hO2; have hb2 := (hG2.keepsO.block bt hTA.out.lt.1 (fun hm => by obtain ⟨cs', hc⟩ := hOA.out.tag bt (by simpa using hm); exact tag_ne hc hTA.out.blk (by decide) rfl)).trans hTA.out.blk; have d2 := (show w2.cell? ⟨bt, 10, none⟩ = some (.slice ga LG gc) by simp [World.cell?, hb2]); have hf2 := (show ∀ o, w2.frozen? ⟨bt, o, none⟩ = false by intro o; simp [World.frozen?, hb2]); have hl2' := lt_of_blk hb2; obtain ⟨g2, c2, rfl⟩ := hO2.form; obtain ⟨L2, hL2⟩ : ∃ n, (t.ag ++ [m]).length = n := ⟨_, rfl⟩; rw [hL2] at hO2 hS hMv ⊢; replace hS := Lib.hid hS; replace hMv := Lib.hid hMv; clear hO2 hG2 hb2 d10))
    have hT3 := hS.out.1
    have hMv3 := (Mv.nil hkw.out).trans hMv.out
    generalize w2.setCell ⟨bt, 10, none⟩ (.slice g2 L2 c2) = w3 at *
    have hcl := claims_c w3.drew B bt bm vo vh _ _ (hT3.keeps ((Keeps.refl [] w3).drew)) hl
    have d10 := hT3.cells.2.2.2.2.2.2.2.2.2.2.1
    have hfr := hT3.free
    have hlt := hT3.lt
    replace hT3 := Lib.hid hT3
    replace hMv3 := Lib.hid hMv3
    replace hcl := Lib.hid hcl
    clear hS hMv hkw hTA hm1 hOA d2 hf2 hl2'
    go_wp2
    refine Free.wp_region_chain (fun i => i == 6) (fun i => true) (fun _ _ => False) (by kernel_rfl) (by kernel_rfl) (by kernel_rfl) ?_
    (repeat (first | (apply Free.cw_pure rfl rfl; (intro w'; go_simp <;> exact rfl); go_frame) | (apply Free.cw_steady rfl rfl rfl; (intro w' hS; have q0 := Free.sx_cell hS d10 (fun _ _ hT => hT); go_simp <;> exact rfl); go_frame) | (refine Free.cw_skip rfl ?_; go_frame)))
    refine Free.cw_loud rfl rfl (fun K hK => ?_)
    go_wp2_with fail
    refine hcl.out.mono ?_
    rintro e w4 ⟨v4, P, V, Bc, Y, rfl, _, hCL, hY, hP, k4⟩
    refine hK _ _ rfl (Free.KeepsP.of k4 (by simp)) ?_
    clear hK K hcl
    obtain ⟨a4, c4, rfl⟩ := hCL.c.form
    have hPe : P = t.clm := by
      have := Tr.clm_eq (t := { t with ag := t.ag ++ [m] }) hT3.out.inv hY hP
      rw [this]; rfl
    obtain ⟨LP, hLP⟩ : ∃ n, (rowsC P V).length = n := ⟨_, rfl⟩
    have hLP2 : LP = t.clm.length := by rw [← hLP, ← hPe]; simp [rowsC]
    rw [hLP]
    have hT4 := hT3.out.keeps (((Keeps.refl [] w3).drew).trans k4)
    have hMv4 := hMv3.out.trans (Mv.nil (((Keeps.refl [] w3).drew).trans k4))
    have hfr4 := hT4.free
    have d9 := hT4.cells.2.2.2.2.2.2.2.2.2.1
    have hL2g : L2 = t.ag.length + 1 := by rw [← hL2]; simp
    replace hLP := Lib.hid hLP
    replace hL2 := Lib.hid hL2
    replace hT4 := Lib.hid hT4
    replace hMv4 := Lib.hid hMv4
    clear hCL hPe k4 hT3 hMv3
    by_cases heq : t.ag.length + 1 = t.clm.length
    · have hb : L2 = LP := by omega
      rw [if_pos heq] at hres
      have hb2 : ((L2 : Int) == (LP : Int)) = true := by simp [hb]
      replace hb := Lib.hid hb
      replace heq := Lib.hid heq
      replace hLP2 := Lib.hid hLP2
      replace hL2g := Lib.hid hL2g
      (repeat (apply Free.cw_pure rfl rfl; (intro w'; go_simp <;> exact rfl); go_frame))
      refine Free.cw_nil ?_
      clear d10
      go_wp2
      go_ret
      rw [hLG.out]
      exact AgrPost.of hres.out (hT4.out.setState 2) (hMv4.out.trans (hT4.out.mvSet 9 _))
    · have hb : ¬ L2 = LP := by omega
      rw [if_neg heq] at hres
      have hb2 : ((L2 : Int) == (LP : Int)) = false := by simp; omega
      replace hb := Lib.hid hb
      replace heq := Lib.hid heq
      replace hLP2 := Lib.hid hLP2
      replace hL2g := Lib.hid hL2g
      (repeat (apply Free.cw_pure rfl rfl; (intro w'; go_simp <;> exact rfl); go_frame))
      refine Free.cw_nil ?_
      clear d10
      go_wp2
      go_ret
      rw [hLG.out]
      exact AgrPost.of hres.out hT4.out hMv4.out
  · have br : (r != 0) = true := by simpa using hr
    have hres : t.agreeT m = (t, r) := by
      rcases hcase with ⟨h1, h2⟩ | ⟨h1, P, Y, p, h2, h3, h4, h5⟩
      · unfold Tr.agreeT; rw [if_pos h1, h2]
      · rw [Tr.clm_eq hinv h2 h3] at h4
        by_cases e : p.m = m
        · rw [if_pos e] at h5; exact absurd h5 hr
        · rw [if_neg e] at h5
          unfold Tr.agreeT
          rw [if_neg (by simp [h1]), h4]
          simp only
          rw [if_pos e, h5]
    replace hT := Lib.hid hT
    replace hk := Lib.hid hk
    replace hres := Lib.hid hres
    clear hcase
    go_wp2
    go_ret
    exact AgrPost.of hres.out hT.out (Mv.nil hk.out)
end Go.Proofs.YtiplgpefapeapaaGreat

namespace Go.Proofs.YtiplgpefapeapaaGreat
open Go.RowKit

theorem LRd.snoc {w : World} {X : List AnV} {Y : List Ans} {x : AnV} {y : Ans} (h : LRd w X Y) (hx : InR w x y) : LRd w (X ++ [x]) (Y ++ [y]) := by
  obtain ⟨hl, hh⟩ := h
  refine ⟨by simp [hl], fun k u v hu hv => ?_⟩
  by_cases hk : k < X.length
  · rw [List.getElem?_append_left hk] at hu
    rw [List.getElem?_append_left (by omega)] at hv
    exact hh k u v hu hv
  · rw [List.getElem?_append_right (by omega)] at hu hv
    rw [← hl] at hv
    obtain ⟨j, hj⟩ : ∃ j, k - X.length = j := ⟨_, rfl⟩
    rw [hj] at hu hv
    cases j with
    | zero => simp at hu hv; subst hu hv; exact hx
    | succ j => simp at hu
/-- While a trace gathers, its history are the recorded answers. -/
def Tr.HistOk (t : Tr) : Prop := t.state = 0 → ∀ b, b ∈ t.hist ↔ ∃ p ∈ t.rec', p.2 = b
end Go.Proofs.YtiplgpefapeapaaGreat

namespace Go.Proofs.YtiplgpefapeapaaGreat
open Go.RowKit

theorem Tr.put_rec {t : Tr} {a : Ans} (hn : t.op.Nodup) (ho : isOpen a.q t.qs = true) (b : Ans) : (∃ p ∈ ((t.take a).put a).rec', p.2 = b) ↔ b = a ∨ ∃ p ∈ t.rec', p.2 = b := by
  have hm := isOpen_mem.1 ho
  have hq : a.q ∈ t.qs.map (·.1) := List.mem_map.2 ⟨_, hm, rfl⟩
  have hr : ((t.take a).put a).rec' = recOf (setQ a.q a t.qs) := fold_rec _ _ _
  rw [hr]
  constructor
  · rintro ⟨⟨k, c⟩, hp, rfl⟩
    rcases (setQ_mem hq k (some c)).1 (recOf_keys.1 hp) with ⟨_, e⟩ | ⟨_, e⟩
    · exact .inl (Option.some.inj e)
    · exact .inr ⟨(k, c), recOf_keys.2 e, rfl⟩
  · rintro (rfl | ⟨⟨k, c⟩, hp, rfl⟩)
    · exact ⟨(b.q, b), recOf_keys.2 ((setQ_mem hq _ _).2 (.inl ⟨rfl, rfl⟩)), rfl⟩
    · refine ⟨(k, c), recOf_keys.2 ((setQ_mem hq _ _).2 ?_), rfl⟩
      have hp2 : (k, some c) ∈ t.qs := recOf_keys.1 hp
      by_cases e : k = a.q
      · subst e
        have := nd_val hn hm hp2
        cases this
      · exact .inr ⟨e, hp2⟩
theorem Tr.HistOk.new (im is : Int) (st : T3) : (Tr.new im is st).HistOk := fun _ b => by simp [Tr.new, Tr.rec', recOf]
theorem Tr.close_hist (t : Tr) : t.close.hist = t.hist ∧ t.close.rec' = t.rec' ∧ (t.close.state = 0 → t.state = 0) := by
  unfold Tr.close
  split
  · exact ⟨rfl, rfl, fun h => by simp at h⟩
  · exact ⟨rfl, rfl, id⟩
theorem Tr.HistOk.answer {t : Tr} {a : Ans} (h : t.HistOk) (hi : t.Inv) : (t.answer a).1.HistOk := by
  unfold Tr.answer
  split
  · exact h
  split
  · exact h
  split
  · exact fun hs => by simp at hs
  split
  · exact fun hs => by simp at hs
  split
  · exact fun hs => by simp at hs
  rename_i h0 ho _ _ _
  intro _ b
  obtain ⟨e1, e2, _⟩ := Tr.close_hist ((t.take a).put a)
  simp only [e1, e2]
  have ho2 : isOpen a.q t.qs = true := by simpa using ho
  rw [Tr.put_rec hi.nd ho2, ← h (by simpa using h0) b]
  show b ∈ t.hist ++ [a] ↔ _
  simp [or_comm]
theorem Tr.HistOk.refuse {t : Tr} (h : t.HistOk) (m : Int) : (t.refuseT m).1.HistOk := by
  unfold Tr.refuseT
  split
  · exact h
  split
  · split
    · exact h
    · exact fun hs => by simp at hs
  · exact h
theorem Tr.HistOk.agree {t : Tr} (h : t.HistOk) (m : Int) : (t.agreeT m).1.HistOk := by
  unfold Tr.agreeT
  split
  · exact h
  rename_i h1
  split
  · split
    · exact h
    · intro hs
      simp only at hs
      split at hs
      · cases hs
      · have : t.state = 1 := by simpa using h1
        omega
  · exact h
end Go.Proofs.YtiplgpefapeapaaGreat

namespace Go.Proofs.YtiplgpefapeapaaGreat
open Go.ChangeShapes Go.WideShapes Go.ChangeAt Go.RowKit

structure Op3 where
  k : Nat
  i : Int
  near : Bool
  a : Ans
structure Op3.Fit (o : Op3) : Prop where
  k : o.k < 256
  i : W64 o.i
  a : o.a.Fit
/-- The questions without an answer. -/
def opens (qs : Qs) : List Qn := (qs.filter (fun p => !p.2.isSome)).map (·.1)
/-- The chosen one. -/
def pick (i : Int) (n : Nat) : Nat := (Int.tmod (Int.tmod i n + n) n).toNat
def Op3.aim (o : Op3) (qs : Qs) : Ans := if o.k ≤ 1 ∧ 0 < (opens qs).length then (match (opens qs)[pick o.i (opens qs).length]? with | some q => { o.a with m := q.1, ow := q.2.1, n := q.2.2 } | none => o.a) else o.a
/-- The machine that a reply is for. -/
def Op3.mach (o : Op3) (t : Tr) : Int := if o.near = true ∧ t.state = 1 then (match t.clm[t.ag.length]? with | some p => p.m | none => o.i) else o.i
def Op3.step (o : Op3) (t : Tr) : Tr :=
  if o.k ≤ 3 then (t.answer (o.aim t.qs)).1 else if o.k = 4 then t.queries.1 else if o.k = 5 then (t.agreeT (o.mach t)).1 else if o.k = 6 then (t.refuseT (o.mach t)).1 else t
end Go.Proofs.YtiplgpefapeapaaGreat

namespace Go.Proofs.YtiplgpefapeapaaGreat
open Go.RowKit

/-- A trace after n operations of at most five entries each. -/
structure Tr.Bnd (t : Tr) (n : Nat) : Prop where
  ho : t.HistOk
  qs : t.qs.length ≤ 1 + 5 * n
  ne : t.qs ≠ []
  hl : t.hist.length ≤ n
  hi : ∀ a ∈ t.hist, a.ins.length ≤ 5
  ag : t.ag.length ≤ n
  tl : ∃ tn : Nat, t.told = tn ∧ tn ≤ t.qs.length
  s1 : t.state = 1 → t.ag.length < t.clm.length
  s0 : t.state = 0 → t.ag = []
  rf : t.rf = true → t.state = 4
theorem Tr.clm_qs {t u : Tr} (h : u.qs = t.qs) : u.clm = t.clm := by
  cases t; cases u
  simp only at h
  subst h
  rfl
theorem Tr.clm_pos {t : Tr} (h : t.Inv) (hn : t.rec' ≠ []) : 0 < t.clm.length := by
  have hs := srtOf_sorted h
  have hp : ClaimsP t (srtOf t.qs) t.clm := refOf_claims hs.2
  obtain ⟨h1, _⟩ := ClaimsP.at' hs.2 hp
  rw [h1]
  obtain ⟨_, _, h3⟩ := rawOf_eq t (outsOf (srtOf t.qs)) (srtOf t.qs) hs.2
  obtain ⟨p, hpm⟩ := List.exists_mem_of_ne_nil _ hn
  have hm : p.2 ∈ srtOf t.qs := hs.1.mem_iff.2 (List.mem_map.2 ⟨p, hpm, rfl⟩)
  have := (h3 p.2.m).2 ⟨p.2, hm, rfl⟩
  exact List.length_pos_of_mem this
theorem Tr.Bnd.new (im is : Int) (st : T3) : (Tr.new im is st).Bnd 0 :=
  ⟨Tr.HistOk.new im is st, by simp [Tr.new], by simp [Tr.new], by simp [Tr.new], by simp [Tr.new], by simp [Tr.new], ⟨0, rfl, by simp [Tr.new]⟩, by simp [Tr.new], by simp [Tr.new], by simp [Tr.new]⟩
theorem Tr.Bnd.mono {t : Tr} {n m : Nat} (h : t.Bnd n) (hm : n ≤ m) : t.Bnd m := ⟨h.ho, by have := h.qs; omega, h.ne, by have := h.hl; omega, h.hi, by have := h.ag; omega, h.tl, h.s1, h.s0, h.rf⟩
theorem setQ_length (q : Qn) (a : Ans) (qs : Qs) : (setQ q a qs).length = qs.length := by unfold setQ; simp
theorem fold_ge (m : Int) : ∀ (l : List T3) (qs : Qs), qs.length ≤ (l.foldl (openQ m) qs).length
  | [], _ => Nat.le_refl _
  | x :: l, qs => Nat.le_trans (by unfold openQ; split <;> simp) (fold_ge m l (openQ m qs x))
theorem Tr.Bnd.answer {t : Tr} {n : Nat} {a : Ans} (h : t.Bnd n) (hi : t.Inv) (hi' : (t.answer a).1.Inv) (ha : a.ins.length ≤ 5) : (t.answer a).1.Bnd (n + 1) := by
  have hho := h.ho.answer (a := a) hi
  have hist : ∀ b ∈ t.hist ++ [a], b.ins.length ≤ 5 := fun b hb => by
    rcases List.mem_append.1 hb with hb | hb
    · exact h.hi b hb
    · rw [List.mem_singleton.1 hb]; exact ha
  have hl : (t.hist ++ [a]).length ≤ n + 1 := by have := h.hl; simp; omega
  have hg : t.ag.length ≤ n + 1 := by have := h.ag; omega
  have hq : t.qs.length ≤ 1 + 5 * (n + 1) := by have := h.qs; omega
  revert hho hi'
  unfold Tr.answer
  split
  · exact fun _ _ => h.mono (by omega)
  rename_i h0
  have h0 : t.state = 0 := by simpa using h0
  have hrf : t.rf = false := by
    cases e : t.rf with
    | false => rfl
    | true => have := h.rf e; omega
  split
  · exact fun _ _ => h.mono (by omega)
  split
  · exact fun _ hho => ⟨hho, hq, h.ne, hl, hist, hg, h.tl, by simp, by simp, fun _ => rfl⟩
  split
  · exact fun _ hho => ⟨hho, hq, h.ne, hl, hist, hg, h.tl, by simp, by simp, fun e => by simp [Tr.take, hrf] at e⟩
  split
  · exact fun _ hho => ⟨hho, hq, h.ne, hl, hist, hg, h.tl, by simp, by simp, fun _ => rfl⟩
  intro hi' hho
  obtain ⟨tn, e1, e2⟩ := h.tl
  have hlen : ((t.take a).put a).qs.length ≤ 1 + 5 * (n + 1) := by
    have := fold_len a.m a.ins (setQ a.q a t.qs)
    rw [setQ_length] at this
    have h2 := h.qs
    show (a.ins.foldl (openQ a.m) (setQ a.q a t.qs)).length ≤ _
    omega
  have hge : t.qs.length ≤ ((t.take a).put a).qs.length := by
    have := fold_ge a.m a.ins (setQ a.q a t.qs)
    rw [setQ_length] at this
    exact this
  have hpos : 0 < t.qs.length := List.length_pos_iff.2 h.ne
  have hne : ((t.take a).put a).qs ≠ [] := List.length_pos_iff.1 (by omega)
  unfold Tr.close at hho hi' ⊢
  by_cases hall : allQ ((t.take a).put a).qs = true
  · simp only [hall, if_true] at hho hi' ⊢
    refine ⟨hho, hlen, hne, hl, hist, hg, ⟨tn, e1, by simp only; omega⟩, fun _ => ?_, by simp, fun e => by simp [Tr.take, Tr.put, hrf] at e⟩
    have hag : ((t.take a).put a).ag = [] := h.s0 h0
    have hcp := Tr.clm_pos hi' (fun e => by
      have := (rec_len ((t.take a).put a).qs).2.2 hall
      have e' : recOf ((t.take a).put a).qs = [] := e
      rw [e'] at this
      simp at this
      omega)
    show ((t.take a).put a).ag.length < _
    rw [hag]
    exact hcp
  · simp only [hall] at hho hi' ⊢
    exact ⟨hho, hlen, hne, hl, hist, hg, ⟨tn, e1, by simp only [Bool.false_eq_true, if_false]; omega⟩, fun e => by simp [Tr.take, Tr.put, h0] at e, fun _ => h.s0 h0, fun e => by simp [Tr.take, Tr.put, hrf] at e⟩
theorem Tr.Bnd.queries {t : Tr} {n : Nat} (h : t.Bnd n) : t.queries.1.Bnd (n + 1) := by
  unfold Tr.queries
  split
  · exact h.mono (by omega)
  · exact ⟨h.ho, by have := h.qs; simp only; omega, h.ne, by have := h.hl; simp only; omega, h.hi, by have := h.ag; simp only; omega, ⟨t.qs.length, rfl, Nat.le_refl _⟩, h.s1, h.s0, h.rf⟩
theorem Tr.Bnd.agree {t : Tr} {n : Nat} (h : t.Bnd n) (m : Int) : (t.agreeT m).1.Bnd (n + 1) := by
  have hho := h.ho.agree m
  revert hho
  unfold Tr.agreeT
  split
  · exact fun _ => h.mono (by omega)
  rename_i h1
  have h1 : t.state = 1 := by simpa using h1
  have hlt := h.s1 h1
  split
  · split
    · exact fun _ => h.mono (by omega)
    · intro hho
      refine ⟨hho, by have := h.qs; simp only; omega, h.ne, by have := h.hl; simp only; omega, h.hi, by have := h.ag; simp; omega, h.tl, fun e => ?_, fun e => ?_, fun e => ?_⟩
      · simp only at e
        split at e
        · omega
        · rename_i hne
          have e2 := @Tr.clm_qs t { t with ag := t.ag ++ [m], state := if t.ag.length + 1 = t.clm.length then 2 else t.state } rfl
          rw [e2]
          simp only [List.length_append, List.length_cons, List.length_nil]
          omega
      · simp only at e
        split at e <;> omega
      · have := h.rf e
        omega
  · exact fun _ => h.mono (by omega)
theorem Tr.Bnd.refuse {t : Tr} {n : Nat} (h : t.Bnd n) (m : Int) : (t.refuseT m).1.Bnd (n + 1) := by
  have hho := h.ho.refuse m
  revert hho
  unfold Tr.refuseT
  split
  · exact fun _ => h.mono (by omega)
  split
  · split
    · exact fun _ => h.mono (by omega)
    · intro hho
      exact ⟨hho, by have := h.qs; simp only; omega, h.ne, by have := h.hl; simp only; omega, h.hi, by have := h.ag; simp only; omega, h.tl, by simp, by simp, fun _ => rfl⟩
  · exact fun _ => h.mono (by omega)
end Go.Proofs.YtiplgpefapeapaaGreat

namespace Go.Proofs.YtiplgpefapeapaaGreat
open Go.RowKit

/-- An inset, an answer, as the reader reads them. -/
def rX (s : RS) : T3 × RS := (((rI s).1, (rU (rI s).2).1, (rI (rU (rI s).2).2).1), (rI (rU (rI s).2).2).2)
def rXs : Nat → RS → List T3 → List T3 × RS
  | 0, s, L => (L, s)
  | n + 1, s, L => rXs n (rX s).2 (L ++ [(rX s).1])
theorem rXs_succ (n : Nat) (s : RS) (L : List T3) : rXs (n + 1) s L = rXs n (rX s).2 (L ++ [(rX s).1]) := rfl
/-- The seven fields of an answer, read one after the other. -/
def f1 (s : RS) : RS := (rI s).2
def f2 (s : RS) : RS := (rI (f1 s)).2
def f3 (s : RS) : RS := (rU (f2 s)).2
def f4 (s : RS) : RS := (rI (f3 s)).2
def f5 (s : RS) : RS := (rB (f4 s)).2
def f6 (s : RS) : RS := (rB (f5 s)).2
def f7 (s : RS) : RS := (rI (f6 s)).2
def rA0 (s : RS) : Ans := ⟨(rI s).1, (rI (f1 s)).1, (rU (f2 s)).1, (rI (f3 s)).1, (rB (f4 s)).1, (rB (f5 s)).1, (rI (f6 s)).1, []⟩
def rAn (K : Nat) (s : RS) : Nat × RS := rCS K (f7 s)
def rAx (K : Nat) (s : RS) : List T3 × RS := rXs (rAn K s).1 (rAn K s).2 []
def rA (K : Nat) (s : RS) : Ans := { rA0 s with ins := (rAx K s).1 }
/-- One answer more. -/
abbrev DS := RS × Tr × Bool
/-- The machine of the pending claim. -/
def Tr.pm (t : Tr) : Int := match t.clm[t.ag.length]? with | some p => p.m | none => 0
def gS (t : Tr) : Option Tr := if t.state = 1 then some (t.agreeT t.pm).1 else none
def gA (t : Tr) : Nat → Option Tr
  | 0 => some t
  | k + 1 => (gA t k).bind gS
def rfS (b : Bool) (t : Tr) : Option Tr := if b = true then (if t.state = 1 then some (t.refuseT t.pm).1 else none) else some t
/-- The head of the encoding. -/
def h1 (l : List UInt8) : RS := (rI (l, 0)).2
def h2 (l : List UInt8) : RS := (rI (h1 l)).2
def h3 (l : List UInt8) : RS := (rI (h2 l)).2
def h4 (l : List UInt8) : RS := (rU (h3 l)).2
def h5 (l : List UInt8) : RS := (rI (h4 l)).2
def h6 (l : List UInt8) : RS := (rU (h5 l)).2
def hT (l : List UInt8) : Tr := Tr.new (rI (l, 0)).1 (rI (h1 l)).1 ((rI (h2 l)).1, (rU (h3 l)).1, (rI (h4 l)).1)
def hTold (l : List UInt8) : Nat := min (rU (h5 l)).1 1025
def hX (l : List UInt8) : DS := ((rCS l.length (h6 l)).2, hT l, decide (hTold l = 0) || decide (hTold l = 1))
def hN (l : List UInt8) : Nat := (rCS l.length (h6 l)).1
/-- What holds of the trace while it is played again. -/
structure Tr.Dc (t : Tr) : Prop where
  s1 : t.state = 1 → t.ag.length < t.clm.length
  s0 : t.state = 0 → t.ag = []
  ne : t.qs ≠ []
  rf : t.rf = false
theorem Tr.Dc.new (im is : Int) (st : T3) : (Tr.new im is st).Dc := ⟨by simp [Tr.new], by simp [Tr.new], by simp [Tr.new], rfl⟩
theorem Tr.Dc.answer {t : Tr} {a : Ans} (h : t.Dc) (hi' : (t.answer a).1.Inv) : (t.answer a).1.Dc := by
  revert hi'
  unfold Tr.answer
  split
  · exact fun _ => h
  rename_i h0
  have h0 : t.state = 0 := by simpa using h0
  split
  · exact fun _ => h
  split
  · exact fun _ => ⟨by simp, by simp, h.ne, h.rf⟩
  split
  · exact fun _ => ⟨by simp, by simp, h.ne, h.rf⟩
  split
  · exact fun _ => ⟨by simp, by simp, h.ne, h.rf⟩
  intro hi'
  have hge : t.qs.length ≤ ((t.take a).put a).qs.length := by
    have := fold_ge a.m a.ins (setQ a.q a t.qs)
    rw [setQ_length] at this
    exact this
  have hpos : 0 < t.qs.length := List.length_pos_iff.2 h.ne
  have hne : ((t.take a).put a).qs ≠ [] := List.length_pos_iff.1 (by omega)
  unfold Tr.close at hi' ⊢
  by_cases hall : allQ ((t.take a).put a).qs = true
  · simp only [hall, if_true] at hi' ⊢
    refine ⟨fun _ => ?_, by simp, hne, h.rf⟩
    have hag : ((t.take a).put a).ag = [] := h.s0 h0
    have hcp := Tr.clm_pos hi' (fun e => by
      have := (rec_len ((t.take a).put a).qs).2.2 hall
      have e' : recOf ((t.take a).put a).qs = [] := e
      rw [e'] at this
      simp at this
      omega)
    show ((t.take a).put a).ag.length < _
    rw [hag]
    exact hcp
  · simp only [hall] at hi' ⊢
    exact ⟨fun e => by simp [Tr.take, Tr.put, h0] at e, fun _ => h.s0 h0, hne, h.rf⟩
theorem Tr.Dc.pm {t : Tr} (h : t.Dc) (h1 : t.state = 1) : ∃ p, t.clm[t.ag.length]? = some p ∧ t.pm = p.m := by
  have := h.s1 h1
  refine ⟨_, List.getElem?_eq_getElem this, ?_⟩
  unfold Tr.pm
  rw [List.getElem?_eq_getElem this]
theorem Tr.Dc.agree_eq {t : Tr} (h : t.Dc) (h1 : t.state = 1) : t.agreeT t.pm = ({ t with ag := t.ag ++ [t.pm], state := if t.ag.length + 1 = t.clm.length then 2 else t.state }, 0) := by
  obtain ⟨p, hp, hm⟩ := h.pm h1
  unfold Tr.agreeT
  rw [if_neg (by simp [h1]), hp]
  simp only
  rw [if_neg (by simp [hm])]
theorem Tr.Dc.refuse_eq {t : Tr} (h : t.Dc) (h1 : t.state = 1) : t.refuseT t.pm = ({ t with state := 4, rf := true }, 0) := by
  obtain ⟨p, hp, hm⟩ := h.pm h1
  unfold Tr.refuseT
  rw [if_neg (by simp [h1]), hp]
  simp only
  rw [if_neg (by simp [hm])]
theorem Tr.Dc.agree {t : Tr} (h : t.Dc) (h1 : t.state = 1) : (t.agreeT t.pm).1.Dc := by
  rw [h.agree_eq h1]
  have hlt := h.s1 h1
  refine ⟨fun e => ?_, fun e => ?_, h.ne, h.rf⟩
  · simp only at e
    split at e
    · omega
    · rename_i hne
      have e2 := @Tr.clm_qs t { t with ag := t.ag ++ [t.pm], state := if t.ag.length + 1 = t.clm.length then 2 else t.state } rfl
      rw [e2]
      simp only [List.length_append, List.length_cons, List.length_nil]
      omega
  · simp only at e
    split at e <;> omega
theorem msA_len (L : List Int) (a : Ans) : (msA L a).length ≤ L.length + 1 := by unfold msA; split <;> simp
theorem msF_len : ∀ (Y : List Ans) (L : List Int), (Y.foldl msA L).length ≤ L.length + Y.length
  | [], L => by simp
  | a :: Y, L => by
    have ih := msF_len Y (msA L a)
    have := msA_len L a
    rw [List.foldl_cons, List.length_cons]
    omega
theorem ms_len (Y : List Ans) : (msOf Y).length ≤ Y.length := by have := msF_len Y []; simpa [msOf] using this
theorem Tr.clm_len {t : Tr} (h : t.Inv) : t.clm.length ≤ t.qs.length := by
  have hs := srtOf_sorted h
  have hp : ClaimsP t (srtOf t.qs) t.clm := refOf_claims hs.2
  obtain ⟨e1, _⟩ := ClaimsP.at' hs.2 hp
  rw [e1]
  have e2 := ms_len (srtOf t.qs)
  have e3 := hs.1.length_eq
  have e4 := (rec_len t.qs).1
  rw [List.length_map] at e3
  have e5 : t.rec' = recOf t.qs := rfl
  rw [e5] at e3
  omega
end Go.Proofs.YtiplgpefapeapaaGreat

namespace Go.Proofs.YtiplgpefapeapaaGreat
open Go.RowKit

structure Tr.Di (t : Tr) (k : Nat) : Prop where
  dc : t.Dc
  hl : t.hist.length ≤ k
  hi : ∀ a ∈ t.hist, a.ins.length ≤ 1000
  nm : t.Num
  ag : t.ag.length ≤ 1000
  st : 0 ≤ t.state ∧ t.state ≤ 4
theorem Tr.Di.new (im is : Int) (st : T3) (h1 : W64 im) (h2 : W64 is) (h3 : W64 st.1) (h4 : st.2.1 < 18446744073709551616) (h5 : W64 st.2.2) : (Tr.new im is st).Di 0 :=
  ⟨Tr.Dc.new im is st, by simp [Tr.new], by simp [Tr.new], ⟨h1, h2, h3, h4, h5⟩, by simp [Tr.new], by simp [Tr.new]⟩
theorem Tr.answer_hist (t : Tr) (a : Ans) : ((t.answer a).1.hist = t.hist ∨ (t.answer a).1.hist = t.hist ++ [a]) ∧ (t.answer a).1.im = t.im ∧ (t.answer a).1.is = t.is ∧ (t.answer a).1.st = t.st ∧ (t.answer a).1.ag = t.ag := by
  unfold Tr.answer
  split
  · exact ⟨.inl rfl, rfl, rfl, rfl, rfl⟩
  split
  · exact ⟨.inl rfl, rfl, rfl, rfl, rfl⟩
  split
  · exact ⟨.inr rfl, rfl, rfl, rfl, rfl⟩
  split
  · exact ⟨.inr rfl, rfl, rfl, rfl, rfl⟩
  split
  · exact ⟨.inr rfl, rfl, rfl, rfl, rfl⟩
  unfold Tr.close
  split <;> exact ⟨.inr rfl, rfl, rfl, rfl, rfl⟩
theorem Tr.answer_st {t : Tr} (h : 0 ≤ t.state ∧ t.state ≤ 4) (a : Ans) : 0 ≤ (t.answer a).1.state ∧ (t.answer a).1.state ≤ 4 := by
  unfold Tr.answer
  split
  · exact h
  split
  · exact h
  split
  · simp
  split
  · simp
  split
  · simp
  unfold Tr.close
  split
  · simp
  · exact h
theorem Tr.Di.answer {t : Tr} {k : Nat} {a : Ans} (h : t.Di k) (hi' : (t.answer a).1.Inv) (ha : a.ins.length ≤ 1000) : (t.answer a).1.Di (k + 1) := by
  obtain ⟨h1, h2, h3, h4, h5⟩ := Tr.answer_hist t a
  refine ⟨h.dc.answer hi', ?_, ?_, ?_, by rw [h5]; exact h.ag, Tr.answer_st h.st a⟩
  · have := h.hl
    rcases h1 with e | e
    · rw [e]; omega
    · rw [e]; simp; omega
  · intro b hb
    rcases h1 with e | e
    · rw [e] at hb; exact h.hi b hb
    · rw [e] at hb
      rcases List.mem_append.1 hb with hb | hb
      · exact h.hi b hb
      · rw [List.mem_singleton.1 hb]; exact ha
  · exact ⟨by rw [h2]; exact h.nm.im, by rw [h3]; exact h.nm.is, by rw [h4]; exact h.nm.s0, by rw [h4]; exact h.nm.s1, by rw [h4]; exact h.nm.s2⟩
theorem Tr.Di.agree {t : Tr} {k : Nat} (h : t.Di k) (h1 : t.state = 1) (hi : t.Inv) (hq : t.qs.length ≤ 1000) : (t.agreeT t.pm).1.Di k :=
  ⟨h.dc.agree h1, by rw [h.dc.agree_eq h1]; exact h.hl, by rw [h.dc.agree_eq h1]; exact h.hi, by rw [h.dc.agree_eq h1]; exact ⟨h.nm.im, h.nm.is, h.nm.s0, h.nm.s1, h.nm.s2⟩, by
    rw [h.dc.agree_eq h1]
    have e1 := h.dc.s1 h1
    have e2 := Tr.clm_len hi
    simp
    omega, by
    rw [h.dc.agree_eq h1]
    have := h.st
    simp only
    split <;> omega⟩
theorem Tr.Di.refuse {t : Tr} {k : Nat} (h : t.Di k) (h1 : t.state = 1) : (t.refuseT t.pm).2 = 0 ∧ (t.refuseT t.pm).1.hist = t.hist ∧ (t.refuseT t.pm).1.Num ∧ (t.refuseT t.pm).1.ag = t.ag ∧ (t.refuseT t.pm).1.state = 4 := by
  rw [h.dc.refuse_eq h1]
  exact ⟨rfl, rfl, ⟨h.nm.im, h.nm.is, h.nm.s0, h.nm.s1, h.nm.s2⟩, rfl, rfl⟩
end Go.Proofs.YtiplgpefapeapaaGreat

namespace Go.Proofs.YtiplgpefapeapaaGreat
open Go.RowKit

theorem Sh.O.lowD {α : Type} {s : Sh α} {w : World} {B B' e : Nat} {v : Value} {L : List α} (h : s.O w B e v L) (hB : B' ≤ B) : s.O w B' e v L := by
  refine ⟨h.1, ?_⟩
  rcases h.2 with hn | ⟨g, cap, cur, rfl, h1, rest⟩
  · exact .inl hn
  · exact .inr ⟨g, cap, cur, rfl, Nat.le_trans hB h1, rest⟩
theorem TrM.lowD {w : World} {B B' bt bm : Nat} {vo vh vg : Value} {t : Tr} (h : TrM w B bt bm vo vh vg t) (hB : B' ≤ B) : TrM w B' bt bm vo vh vg t := by
  obtain ⟨X, hX, hXL⟩ := h.hi
  exact ⟨h.blk, h.op.lowD hB, ⟨X, hX.lowD hB, hXL⟩, h.ag.lowD hB, h.mp, h.inv, ⟨Nat.le_trans hB h.bB.1, Nat.le_trans hB h.bB.2⟩⟩
abbrev tRd : Nat := 126
theorem RdS.tag {w : World} {br : Nat} {s : RS} (h : RdS w br s) : ∃ cs : Array Value, w.heap[br]? = some (Obj.cells cs tRd (0, 0)) := by obtain ⟨v, h⟩ := h; exact ⟨_, h.1⟩
theorem SlV.moved {w w' : World} {v : Value} {l : List UInt8} {S : List Nat} (h : SlV w v l) (hk : Keeps S w w') (hS : ∀ b ∈ S, ∀ cs : Array Value, w.heap[b]? ≠ some (Obj.cells cs tB (0, 0))) : SlV w' v l := by
  obtain ⟨⟨p1, a, cap, rfl, h2, h3, h0, h4⟩, ht⟩ := h
  have hblk : ∀ g, (Value.slice a l.length cap).ownBlock = some g → w'.heap[g]? = w.heap[g]? := fun g hg => by
    obtain ⟨cs, hc⟩ := ht g hg
    exact hk.block g (lt_of_blk hc) (fun hm => hS g hm cs hc)
  refine ⟨⟨p1, a, cap, rfl, h2, h3, h0, fun hp => ?_⟩, fun g hg => by obtain ⟨cs, hc⟩ := ht g hg; exact ⟨cs, (hblk g hg).trans hc⟩⟩
  obtain ⟨g, o, rfl, hc⟩ := h4 hp
  exact ⟨g, o, rfl, fun j u hj => (World.cell?_of_block (w := w) (a := ⟨g, o + j, none⟩) (hblk g rfl)).trans (hc j u hj)⟩
theorem RdS.moved {w w' : World} {br : Nat} {s : RS} {S : List Nat} (h : RdS w br s) (hk : Keeps S w w') (hbr : br ∉ S) (hS : ∀ b ∈ S, ∀ cs : Array Value, w.heap[b]? ≠ some (Obj.cells cs tB (0, 0))) : RdS w' br s := by
  obtain ⟨v, h1, h2⟩ := h
  exact ⟨v, (hk.block br (lt_of_blk h1) hbr).trans h1, h2.moved hk hS⟩
theorem TrM.nob {w : World} {B bt bm : Nat} {vo vh vg : Value} {t : Tr} (h : TrM w B bt bm vo vh vg t) : ∀ b ∈ ownT bt bm vo vh vg, ∀ cs : Array Value, w.heap[b]? ≠ some (Obj.cells cs tB (0, 0)) := fun b hb cs e => by
  obtain ⟨_, _, ⟨es, c, h1⟩ | ⟨cs', e', h1, h2⟩⟩ := h.own_tag hb
  · rw [h1] at e; cases e
  · rw [h1] at e
    cases e
    rcases h2 with h2 | h2 | h2 | h2 <;> exact absurd h2 (by decide)
/-- The reader in Decode's memory. -/
structure RM (w W : World) (br : Nat) (s : RS) : Prop where
  r : RdS W br s
  k : Keeps [] w W
  ge : w.heap.size ≤ br
structure DM (w W : World) (br bt bm : Nat) (vo vh vg : Value) (s : RS) (t : Tr) : Prop where
  r : RM w W br s
  m : TrM W (br + 1) bt bm vo vh vg t
namespace RM
variable {w W W' : World} {br : Nat} {s s' : RS}
theorem lt (h : RM w W br s) : br < W.heap.size := h.r.lt
theorem ref (h : RM w W br s) (hr : RdS W' br s') (hk : Keeps [br] W W') : RM w W' br s' := ⟨hr, h.k.fresh hk (fun b hb => .inr (by simp at hb; have := h.ge; omega)), h.ge⟩
theorem keeps (h : RM w W br s) (hk : Keeps [] W W') : RM w W' br s := ⟨h.r.keeps hk, h.k.trans hk, h.ge⟩
theorem int (h : RM w W br s) : Calls Tryz.prog 25 #[.pointer (some ⟨br, 0, none⟩)] W fun e W' => e = .returned (.int .i64 (rI s).1) ∧ RM w W' br (rI s).2 ∧ Keeps [br] W W' :=
  (intS_c W br s h.r).mono fun _ _ ⟨h1, h2, h3⟩ => ⟨h1, h.ref h2 h3, h3⟩
theorem bool (h : RM w W br s) : Calls Tryz.prog 30 #[.pointer (some ⟨br, 0, none⟩)] W fun e W' => e = .returned (.bool (rB s).1) ∧ RM w W' br (rB s).2 ∧ Keeps [br] W W' :=
  (boolS_c W br s h.r).mono fun _ _ ⟨h1, h2, h3⟩ => ⟨h1, h.ref h2 h3, h3⟩
theorem count (h : RM w W br s) (K : Nat) (hK : K ≤ 1099511627776) : Calls Tryz.prog 79 #[.pointer (some ⟨br, 0, none⟩), .int .i64 (K : Nat)] W fun e W' => e = .returned (.int .i64 (rCS K s).1) ∧ RM w W' br (rCS K s).2 ∧ Keeps [br] W W' :=
  (countS_c K hK W br s h.r).mono fun _ _ ⟨h1, h2, h3⟩ => ⟨h1, h.ref h2 h3, h3⟩
end RM
namespace DM
variable {w W W' : World} {br bt bm : Nat} {vo vh vg vo' vh' vg' : Value} {s s' : RS} {t t' : Tr}
/-- Other blocks than the trace's were written, the reader is in another state. -/
theorem ref (h : DM w W br bt bm vo vh vg s t) (hr : RM w W' br s') (hk : Keeps [br] W W') : DM w W' br bt bm vo vh vg s' t := by
  obtain ⟨cs, hc⟩ := h.r.r.tag
  refine ⟨hr, h.m.keep hk (fun b hb e => ?_) (hk.ki (fun b hb cs' f hx => ?_))⟩
  · have := (h.m.own_tag hb).1
    simp at e
    omega
  · simp at hb
    subst hb
    rw [hc] at hx
    simp only [Option.some.injEq, Obj.cells.injEq] at hx
    exact absurd hx.2.1 (by decide)
theorem keeps (h : DM w W br bt bm vo vh vg s t) (hk : Keeps [] W W') : DM w W' br bt bm vo vh vg s t := ⟨h.r.keeps hk, h.m.keeps hk⟩
theorem mv (h : DM w W br bt bm vo vh vg s t) (hm : TrM W' (br + 1) bt bm vo' vh' vg' t') (hM : Mv (ownT bt bm vo vh vg) (ownT bt bm vo' vh' vg') W W') : DM w W' br bt bm vo' vh' vg' s t' :=
  ⟨⟨h.r.r.moved hM.k (fun hb => by have := (h.m.own_tag hb).1; omega) h.m.nob, h.r.k.fresh hM.k (fun b hb => .inr (by have := (h.m.own_tag hb).1; have := h.r.ge; omega)), h.r.ge⟩, hm⟩
theorem int (h : DM w W br bt bm vo vh vg s t) : Calls Tryz.prog 25 #[.pointer (some ⟨br, 0, none⟩)] W fun e W' => e = .returned (.int .i64 (rI s).1) ∧ DM w W' br bt bm vo vh vg (rI s).2 t ∧ Keeps [br] W W' :=
  h.r.int.mono fun _ _ ⟨h1, h2, h3⟩ => ⟨h1, h.ref h2 h3, h3⟩
theorem bool (h : DM w W br bt bm vo vh vg s t) : Calls Tryz.prog 30 #[.pointer (some ⟨br, 0, none⟩)] W fun e W' => e = .returned (.bool (rB s).1) ∧ DM w W' br bt bm vo vh vg (rB s).2 t ∧ Keeps [br] W W' :=
  h.r.bool.mono fun _ _ ⟨h1, h2, h3⟩ => ⟨h1, h.ref h2 h3, h3⟩
theorem count (h : DM w W br bt bm vo vh vg s t) (K : Nat) (hK : K ≤ 1099511627776) : Calls Tryz.prog 79 #[.pointer (some ⟨br, 0, none⟩), .int .i64 (K : Nat)] W fun e W' => e = .returned (.int .i64 (rCS K s).1) ∧ DM w W' br bt bm vo vh vg (rCS K s).2 t ∧ Keeps [br] W W' :=
  (h.r.count K hK).mono fun _ _ ⟨h1, h2, h3⟩ => ⟨h1, h.ref h2 h3, h3⟩
theorem blk (h : DM w W br bt bm vo vh vg s t) {b : Nat} {o : Obj} (hb : W.heap[b]? = some o) (hk : Keeps [br] W W') (hne : b ≠ br) : W'.heap[b]? = some o := (hk.block b (lt_of_blk hb) (by simpa using hne)).trans hb
end DM
theorem RM.blk {w W W' : World} {br b : Nat} {s : RS} {o : Obj} (_ : RM w W br s) (hb : W.heap[b]? = some o) (hk : Keeps [br] W W') (hne : b ≠ br) : W'.heap[b]? = some o := (hk.block b (lt_of_blk hb) (by simpa using hne)).trans hb
theorem RM.moved {w W W' : World} {br : Nat} {s : RS} {S : List Nat} (h : RM w W br s) (hk : Keeps S W W') (hbr : br ∉ S) (hS : ∀ b ∈ S, ∀ cs : Array Value, W.heap[b]? ≠ some (Obj.cells cs tB (0, 0))) (hw : ∀ b ∈ S, w.heap.size ≤ b) : RM w W' br s :=
  ⟨h.r.moved hk hbr hS, h.k.fresh hk (fun b hb => .inr (hw b hb)), h.ge⟩
namespace DM
variable {w W W' : World} {br bt bm : Nat} {vo vh vg : Value} {s : RS} {t : Tr}
theorem agree (h : DM w W br bt bm vo vh vg s t) (hq : t.qs.length ≤ 1000) (ha : t.ag.length ≤ 1000) (hd : t.Dc) : Calls Tryz.prog 17 #[.pointer (some ⟨bt, 0, none⟩), .int .i64 t.pm] W fun e W' => ∃ vg' r, e = .returned (.int .i64 r) ∧ DM w W' br bt bm vo vh vg' s (t.agreeT t.pm).1 :=
  (agree_c W (br + 1) bt bm vo vh vg t t.pm h.m hq ha hd.s1).mono fun e W' ⟨vg', h1, h2, h3⟩ => ⟨vg', _, h1, h.mv h2 h3⟩
theorem told (h : DM w W br bt bm vo vh vg s t) (n : Int) : DM w (W.setCell ⟨bt, 6, none⟩ (.int .i64 n)) br bt bm vo vh vg s { t with told := n } :=
  h.mv (h.m.setTold n) (h.m.mvSet 6 _)
end DM
end Go.Proofs.YtiplgpefapeapaaGreat

namespace Go.Proofs.YtiplgpefapeapaaGreat
namespace Free
open Go Go.RowKit

/-- What stays of an operation if only its edges, and the numbers of operations, are changed. -/
structure Like (o o' : Oper) : Prop where
  op : o'.op = o.op
  dst : o'.dst = o.dst
  type : o'.type = o.type
theorem Like.refl (o : Oper) : Like o o := ⟨rfl, rfl, rfl⟩
theorem Like.wp {P : Program} {o o' : Oper} (h : Like o o') {a : Act} {w : World} {K : Act → World → Prop} {Q : Exit → Act → World → Prop} (hw : o'.wp P a w K Q) : o.wp P a w K Q := by
  obtain ⟨d, op, t, p, af, g⟩ := o
  obtain ⟨d', op', t', p', af', g'⟩ := o'
  obtain ⟨h1, h2, h3⟩ := h
  simp only at h1 h2 h3
  subst h1 h2 h3
  exact hw
variable {P : Program} {Q : Exit → Act → World → Prop}
/-- The operations of a region under other numbers. -/
structure Ren (ops ops' : Array Oper) (p : Nat → Nat) : Prop where
  size : ops'.size = ops.size
  lt : ∀ i, p i < ops.size ↔ i < ops.size
  inj : ∀ i j, p i = p j → i = j
  sur : ∀ j, ∃ i, p i = j
  like : ∀ i o, ops[i]? = some o → ∃ o', ops'[p i]? = some o' ∧ Like o o' ∧ ∀ tmps, Region.wanted o' (yielded ops' tmps) = Region.wanted o (yielded ops tmps)
def RelL (n : Nat) (p : Nat → Nat) (L L' : Array Bool) : Prop := L.size = n ∧ L'.size = n ∧ ∀ i, L'.getD (p i) false = L.getD i false
theorem RelL.set {n : Nat} {p : Nat → Nat} {L L' : Array Bool} (h : RelL n p L L') (hp : ∀ i, p i < n ↔ i < n) (hi : ∀ i j, p i = p j → i = j) (i : Nat) : RelL n p (L.setIfInBounds i true) (L'.setIfInBounds (p i) true) := by
  obtain ⟨h1, h2, h3⟩ := h
  refine ⟨by simp [h1], by simp [h2], fun j => ?_⟩
  have h4 := h3 j
  have h5 := hp i
  simp only [Array.getD_eq_getD_getElem?, Array.getElem?_setIfInBounds, h1, h2] at h4 ⊢
  by_cases e : i = j
  · subst e
    simp only [if_true]
    by_cases hn : i < n
    · rw [if_pos hn, if_pos (h5.2 hn)]
    · rw [if_neg hn, if_neg (fun hh => hn (h5.1 hh))]
  · rw [if_neg e, if_neg (fun hh => e (hi _ _ hh))]
    exact h4
/-- Which operations are ready. -/
def Go1 (ops : Array Oper) (L : Array Bool) (o : Oper) : Prop := ∀ e ∈ o.after, Region.binds .any e = true → L.getD e.on false = true
def renI (c f i : Nat) : Nat := if i = f then c else if c ≤ i ∧ i < f then i + 1 else i
def addA (o : Oper) (on : Nat) : Oper := { o with after := o.after.push ⟨on, .data⟩ }
def renO (c f : Nat) (o : Oper) : Oper := { o with after := o.after.map (fun e => { e with on := renI c f e.on }), guard := o.guard.map fun g => (renI c f g.1, g.2) }
def ops1L (l : List Oper) (c f : Nat) : List Oper := l.mapIdx fun i o => if i = f then addA o c else o
/-- `f` ahead of `c`. -/
def order2 (l : List Oper) (c f : Nat) : List Oper := l.take c ++ ((l.drop f).take 1 ++ ((l.drop c).take (f - c) ++ l.drop (f + 1)))
def ops2L (l : List Oper) (c f : Nat) : List Oper := (order2 l c f).mapIdx fun k o => renO c f (if k = c + 1 then addA o f else o)
theorem Like.trans {a b c : Oper} (h : Like a b) (k : Like b c) : Like a c := ⟨k.op.trans h.op, k.dst.trans h.dst, k.type.trans h.type⟩
theorem go_addA {ops : Array Oper} {L : Array Bool} {o : Oper} {on : Nat} : Go1 ops L (addA o on) ↔ Go1 ops L o ∧ L.getD on false = true := by
  unfold Go1 addA
  simp only [Array.mem_push]
  constructor
  · exact fun h => ⟨fun e he => h e (.inl he), h ⟨on, .data⟩ (.inr rfl) rfl⟩
  · rintro ⟨h1, h2⟩ e (he | rfl) hb
    · exact h1 e he hb
    · exact h2
section
variable {l : List Oper} {c f : Nat}
theorem ops1_get (i : Nat) : (ops1L l c f)[i]? = (l[i]?).map fun o => if i = f then addA o c else o := by
  simp [ops1L, List.getElem?_mapIdx]
theorem e1 (L L' : Array Bool) (hL : RelL l.toArray.size (fun i => i) L L') (i : Nat) (o o' : Oper) (ho : l.toArray[i]? = some o) (ho' : (ops1L l c f).toArray[i]? = some o') :
    Go1 (ops1L l c f).toArray L' o' ↔ Go1 l.toArray L o ∧ (i = f → L.getD c false = true) := by
  simp only [List.getElem?_toArray] at ho ho'
  rw [ops1_get, ho] at ho'
  simp only [Option.map_some, Option.some.injEq] at ho'
  subst ho'
  have hs : ∀ x, Go1 (ops1L l c f).toArray L' x ↔ Go1 l.toArray L x := fun x => by
    unfold Go1
    exact ⟨fun h e he hb => (hL.2.2 e.on) ▸ h e he hb, fun h e he hb => (hL.2.2 e.on).symm ▸ h e he hb⟩
  rw [hs]
  by_cases e : i = f
  · rw [if_pos e, go_addA]; exact ⟨fun h => ⟨h.1, fun _ => h.2⟩, fun h => ⟨h.1, h.2 e⟩⟩
  · rw [if_neg e]; exact ⟨fun h => ⟨h, fun h2 => absurd h2 e⟩, fun h => h.1⟩
theorem order2_get (hc : c < f) (hf : f < l.length) (i : Nat) : (order2 l c f)[renI c f i]? = l[i]? := by
  have hl1 : (l.take c).length = c := by simp; omega
  have hl2 : ((l.drop f).take 1).length = 1 := by simp; omega
  have hl3 : ((l.drop c).take (f - c)).length = f - c := by simp; omega
  unfold order2 renI
  by_cases h1 : i = f
  · subst h1
    rw [if_pos rfl, List.getElem?_append_right (by omega), hl1, Nat.sub_self, List.getElem?_append_left (by omega), List.getElem?_take_of_lt (by omega), List.getElem?_drop]; rfl
  · rw [if_neg h1]
    by_cases h2 : c ≤ i ∧ i < f
    · rw [if_pos h2, List.getElem?_append_right (by omega), hl1, List.getElem?_append_right (by omega), hl2, List.getElem?_append_left (by omega), List.getElem?_take_of_lt (by omega), List.getElem?_drop]
      congr 1; omega
    · rw [if_neg h2]
      rcases Nat.lt_or_ge i c with h3 | h3
      · rw [List.getElem?_append_left (by omega), List.getElem?_take_of_lt h3]
      · rw [List.getElem?_append_right (by omega), hl1, List.getElem?_append_right (by omega), hl2, List.getElem?_append_right (by omega), hl3, List.getElem?_drop]
        congr 1; omega
theorem ops2_get (hc : c < f) (hf : f < l.length) (i : Nat) : (ops2L l c f)[renI c f i]? = (l[i]?).map fun o => renO c f (if i = c then addA o f else o) := by
  unfold ops2L
  rw [List.getElem?_mapIdx, order2_get hc hf]
  have : renI c f i = c + 1 ↔ i = c := by
    unfold renI
    split
    · omega
    · split <;> omega
  simp only [this]
theorem e2 (hc : c < f) (hf : f < l.length) (L L' : Array Bool) (hL : RelL l.toArray.size (renI c f) L L') (i : Nat) (o o' : Oper) (ho : l.toArray[i]? = some o) (ho' : (ops2L l c f).toArray[renI c f i]? = some o') :
    Go1 (ops2L l c f).toArray L' o' ↔ Go1 l.toArray L o ∧ (i = c → L.getD f false = true) := by
  simp only [List.getElem?_toArray] at ho ho'
  rw [ops2_get hc hf, ho] at ho'
  simp only [Option.map_some, Option.some.injEq] at ho'
  subst ho'
  have hs : ∀ x, Go1 (ops2L l c f).toArray L' (renO c f x) ↔ Go1 l.toArray L x := fun x => by
    unfold Go1 renO
    simp only [Array.mem_map, forall_exists_index, and_imp, forall_apply_eq_imp_iff₂]
    exact ⟨fun h e he hb => (hL.2.2 e.on) ▸ h e he hb, fun h e he hb => (hL.2.2 e.on).symm ▸ h e he hb⟩
  rw [hs]
  by_cases e : i = c
  · rw [if_pos e, go_addA]; exact ⟨fun h => ⟨h.1, fun _ => h.2⟩, fun h => ⟨h.1, h.2 e⟩⟩
  · rw [if_neg e]; exact ⟨fun h => ⟨h, fun h2 => absurd h2 e⟩, fun h => h.1⟩
end
theorem Like.symm {o o' : Oper} (h : Like o o') : Like o' o := ⟨h.op.symm, h.dst.symm, h.type.symm⟩
end Free
end Go.Proofs.YtiplgpefapeapaaGreat
