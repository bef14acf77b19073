/- Texts that the laws lean on, in the order in which they build. The bounds of Decode for short inputs (plain). TraceBytes: the walk. Bytes among a law's arguments, opened. -/
import Derived.Test.YthfdngjbcgkkfaaJ10
set_option linter.unusedVariables false
set_option linter.unusedSimpArgs false
namespace Go.Proofs.Ythfdngjbcgkkfaa
open Go.RowKit

/-- The bytes that are left, none after a failure. -/
def lft (s : RS) : Nat := if s.2 = 0 then s.1.length else 0
theorem readU_drop {l r : List UInt8} {n : Nat} (h : readU l = some (n, r)) : r.length + 1 ≤ l.length := by
  cases l with
  | nil => cases h
  | cons k t =>
    rcases Classical.em (k.toNat ≤ 8 ∧ k.toNat ≤ t.length ∧ (0 < k.toNat → t.headD 1 ≠ 0)) with hc | hc
    · rw [readU, if_pos hc] at h
      simp only [Option.some.injEq, Prod.mk.injEq] at h
      rw [← h.2]
      simp
    · rw [readU, if_neg hc] at h; cases h
theorem readB_drop {l r : List UInt8} {x : Bool} (h : readB l = some (x, r)) : r.length + 1 ≤ l.length := by
  cases l with
  | nil => cases h
  | cons k t =>
    rcases Classical.em (k.toNat ≤ 1) with hc | hc
    · rw [readB, if_pos hc] at h
      simp only [Option.some.injEq, Prod.mk.injEq] at h
      rw [← h.2]
      simp
    · rw [readB, if_neg hc] at h; cases h
theorem rU_err {s : RS} (h : s.2 ≠ 0) : rU s = (0, s) := by unfold rU; rw [if_neg h]
theorem rB_err {s : RS} (h : s.2 ≠ 0) : rB s = (false, s) := by unfold rB; rw [if_neg h]
theorem rI_err {s : RS} (h : s.2 ≠ 0) : rI s = (0, s) := by unfold rI; rw [rU_err h]; simp [uzig]
theorem rCS_err {K : Nat} {s : RS} (h : s.2 ≠ 0) : rCS K s = (0, s) := by unfold rCS; rw [if_neg h]
theorem rX_err {s : RS} (h : s.2 ≠ 0) : rX s = ((0, 0, 0), s) := by unfold rX; simp only [rI_err h, rU_err h]
/-- A read takes a byte, or fails. -/
theorem rU_step {s : RS} (h : s.2 = 0) : ((rU s).2.2 = 0 ∧ (rU s).2.1.length + 1 ≤ s.1.length) ∨ (rU s).2.2 ≠ 0 := by
  unfold rU
  rw [if_pos h]
  cases e : readU s.1 with
  | none => exact .inr (by simp)
  | some p => obtain ⟨x, r⟩ := p; exact .inl ⟨rfl, readU_drop e⟩
theorem rU_left (s : RS) : ((rU s).2.2 = 0 → s.2 = 0) ∧ lft (rU s).2 ≤ lft s := by
  by_cases h : s.2 = 0
  · refine ⟨fun _ => h, ?_⟩
    unfold lft
    rw [if_pos h]
    rcases rU_step h with ⟨h1, h2⟩ | h1
    · rw [if_pos h1]; omega
    · rw [if_neg h1]; omega
  · rw [rU_err h]; exact ⟨fun e => e, Nat.le_refl _⟩
theorem rI_left (s : RS) : ((rI s).2.2 = 0 → s.2 = 0) ∧ lft (rI s).2 ≤ lft s := rU_left s
theorem rB_left (s : RS) : ((rB s).2.2 = 0 → s.2 = 0) ∧ lft (rB s).2 ≤ lft s := by
  by_cases h : s.2 = 0
  · refine ⟨fun _ => h, ?_⟩
    unfold rB lft
    rw [if_pos h, if_pos h]
    cases e : readB s.1 with
    | none => simp
    | some p => obtain ⟨x, r⟩ := p; have := readB_drop e; simp; omega
  · rw [rB_err h]; exact ⟨fun e => e, Nat.le_refl _⟩
theorem rCS_left (K : Nat) (s : RS) : ((rCS K s).2.2 = 0 → s.2 = 0) ∧ lft (rCS K s).2 ≤ lft s := by
  by_cases h : s.2 = 0
  · refine ⟨fun _ => h, ?_⟩
    unfold rCS rCK lft
    rw [if_pos h, if_pos h]
    cases e : readU s.1 with
    | none => simp
    | some p =>
      obtain ⟨x, r⟩ := p
      have := readU_drop e
      simp only
      split
      · simp; omega
      · rename_i hc; simp [hc]
  · rw [rCS_err h]; exact ⟨fun e => e, Nat.le_refl _⟩
theorem rX_step {s : RS} (h : s.2 = 0) : ((rX s).2.2 = 0 ∧ (rX s).2.1.length + 3 ≤ s.1.length) ∨ (rX s).2.2 ≠ 0 := by
  unfold rX
  simp only
  by_cases h3 : (rI (rU (rI s).2).2).2.2 = 0
  · have e2 := (rI_left _).1 h3
    have e1 := (rU_left _).1 e2
    refine .inl ⟨h3, ?_⟩
    rcases rU_step h with ⟨a1, a2⟩ | a1
    · rcases rU_step e1 with ⟨b1, b2⟩ | b1
      · rcases rU_step e2 with ⟨c1, c2⟩ | c1
        · have a2' : (rI s).2.1.length + 1 ≤ s.1.length := a2
          have c2' : (rI (rU (rI s).2).2).2.1.length + 1 ≤ (rU (rI s).2).2.1.length := c2
          omega
        · exact absurd h3 c1
      · exact absurd e2 b1
    · exact absurd e1 a1
  · exact .inr h3
theorem rXs_app : ∀ (n : Nat) (s : RS) (L : List T3), rXs n s L = (L ++ (rXs n s []).1, (rXs n s []).2)
  | 0, s, L => by simp [rXs]
  | n + 1, s, L => by
    rw [rXs_succ, rXs_succ, rXs_app n _ (L ++ [(rX s).1]), rXs_app n _ ([] ++ [(rX s).1])]
    simp
theorem rXs_err {s : RS} (h : s.2 ≠ 0) : ∀ n, rXs n s [] = (List.replicate n (0, 0, 0), s)
  | 0 => rfl
  | n + 1 => by rw [rXs_succ, rXs_app, rX_err h, rXs_err h n]; simp [List.replicate_succ]
theorem openQ_in {m : Int} {qs : Qs} {x : T3} (h : (x.1, m, x.2.1) ∈ qs.map (·.1)) : openQ m qs x = qs := by unfold openQ; rw [if_pos h]
theorem openQ_mem (m : Int) (qs : Qs) (x : T3) : (x.1, m, x.2.1) ∈ (openQ m qs x).map (·.1) := by
  unfold openQ
  split
  · assumption
  · simp
theorem fold_same (m : Int) (x : T3) : ∀ (n : Nat) (qs : Qs), (x.1, m, x.2.1) ∈ qs.map (·.1) → (List.replicate n x).foldl (openQ m) qs = qs
  | 0, _, _ => rfl
  | n + 1, qs, h => by rw [List.replicate_succ, List.foldl_cons, openQ_in h]; exact fold_same m x n qs h
theorem fold_rep (m : Int) (x : T3) (n : Nat) (qs : Qs) : ((List.replicate n x).foldl (openQ m) qs).length ≤ qs.length + 1 := by
  cases n with
  | zero => simp
  | succ n =>
    rw [List.replicate_succ, List.foldl_cons, fold_same m x n _ (openQ_mem m qs x)]
    exact openQ_len m qs x
theorem fold_read (m : Int) : ∀ (n : Nat) (s : RS) (qs : Qs), s.2 = 0 → ((rXs n s []).1.foldl (openQ m) qs).length * 3 + lft (rXs n s []).2 ≤ qs.length * 3 + s.1.length + (if (rXs n s []).2.2 = 0 then 0 else 6)
  | 0, s, qs, h => by simp [rXs, lft, h]
  | n + 1, s, qs, h => by
    rw [rXs_succ, rXs_app]
    simp only [List.nil_append, List.foldl_append, List.foldl_cons, List.foldl_nil]
    have e0 := openQ_len m qs (rX s).1
    rcases rX_step h with ⟨h1, h2⟩ | h1
    · have ih := fold_read m n (rX s).2 (openQ m qs (rX s).1) h1
      omega
    · rw [rXs_err h1]
      simp only
      rw [if_neg h1]
      have e1 := fold_rep m (0, 0, 0) n (openQ m qs (rX s).1)
      have e2 : lft (rX s).2 = 0 := by unfold lft; rw [if_neg h1]
      omega
theorem answer_qs (t : Tr) (a : Ans) : (t.answer a).1.qs = t.qs ∨ (t.answer a).1.qs = a.ins.foldl (openQ a.m) (setQ a.q a t.qs) := by
  unfold Tr.answer
  split
  · exact .inl rfl
  split
  · exact .inl rfl
  split
  · exact .inl rfl
  split
  · exact .inl rfl
  split
  · exact .inl rfl
  unfold Tr.close
  split <;> exact .inr rfl
theorem answer_kn {t : Tr} {a : Ans} (h : a.kn = false) : (t.answer a).1.qs = t.qs := by
  unfold Tr.answer
  split
  · rfl
  split
  · rfl
  rfl
theorem rA_err {K : Nat} {s : RS} (h : (f7 s).2 ≠ 0) : (rA K s).ins = [] ∧ (rAx K s).2 = f7 s := by
  have e : rAn K s = (0, f7 s) := rCS_err h
  rw [rA_ins]
  unfold rAx
  rw [e]
  exact ⟨rfl, rfl⟩
theorem f4_err {s : RS} (h : s.2 ≠ 0) : f4 s = s := by unfold f4 f3 f2 f1; simp only [rI_err h, rU_err h]
theorem f7_err {s : RS} (h : s.2 ≠ 0) : f7 s = s := by unfold f7 f6 f5; simp only [f4_err h, rI_err h, rB_err h]
theorem rA_kn {K : Nat} {s : RS} (h : s.2 ≠ 0) : (rA K s).kn = false := by show (rB (f4 s)).1 = false; rw [f4_err h, rB_err h]
theorem f7_left (s : RS) : ((f7 s).2 = 0 → s.2 = 0) ∧ lft (f7 s) ≤ lft s := by
  have h1 := rI_left s
  have h2 := rI_left (f1 s)
  have h3 := rU_left (f2 s)
  have h4 := rI_left (f3 s)
  have h5 := rB_left (f4 s)
  have h6 := rB_left (f5 s)
  have h7 := rI_left (f6 s)
  refine ⟨fun e => h1.1 (h2.1 (h3.1 (h4.1 (h5.1 (h6.1 (h7.1 e)))))), ?_⟩
  have a1 : lft (f1 s) ≤ lft s := h1.2
  have a2 : lft (f2 s) ≤ lft (f1 s) := h2.2
  have a3 : lft (f3 s) ≤ lft (f2 s) := h3.2
  have a4 : lft (f4 s) ≤ lft (f3 s) := h4.2
  have a5 : lft (f5 s) ≤ lft (f4 s) := h5.2
  have a6 : lft (f6 s) ≤ lft (f5 s) := h6.2
  have a7 : lft (f7 s) ≤ lft (f6 s) := h7.2
  omega
/-- The invariant: what was read and what is left. -/
def Pot (s : RS) (t : Tr) : Prop := t.qs.length * 3 + lft s ≤ 603 + (if s.2 = 0 then 0 else 6)
theorem Pot.step {K : Nat} {s : RS} {t : Tr} (h : Pot s t) : Pot (rAx K s).2 (t.answer (rA K s)).1 := by
  unfold Pot at h ⊢
  by_cases h0 : s.2 = 0
  · rw [if_pos h0] at h
    have hf := f7_left s
    have hn := rCS_left K (f7 s)
    by_cases hc : (rAn K s).2.2 = 0
    · have hfr := fold_read (rA K s).m (rAn K s).1 (rAn K s).2 (setQ (rA K s).q (rA K s) t.qs) hc
      rw [setQ_length] at hfr
      have e1 : (rAn K s).2.1.length = lft (rAn K s).2 := by unfold lft; rw [if_pos hc]
      have e2 : lft (rAn K s).2 ≤ lft (f7 s) := hn.2
      have e3 : (rXs (rAn K s).1 (rAn K s).2 []) = rAx K s := rfl
      rw [e3] at hfr
      have hle : lft (rAx K s).2 ≤ lft s := by
        have hg := fold_ge (rA K s).m (rAx K s).1 (setQ (rA K s).q (rA K s) t.qs)
        rw [setQ_length] at hg
        by_cases he : (rAx K s).2.2 = 0
        · rw [if_pos he] at hfr; omega
        · unfold lft; rw [if_neg he]; omega
      rcases answer_qs t (rA K s) with e | e
      · rw [e]
        split <;> omega
      · rw [e, rA_ins]
        split at hfr <;> simp_all <;> omega
    · have e4 : rAx K s = ([], (rAn K s).2) := by
        unfold rAx
        have : (rAn K s).1 = 0 := by
          by_cases hz : (f7 s).2 = 0
          · show (rCS K (f7 s)).1 = 0
            have hc' : (rCS K (f7 s)).2.2 ≠ 0 := hc
            revert hc'
            unfold rCS rCK
            rw [if_pos hz]
            split
            · split
              · intro hc'; exact absurd rfl hc'
              · intro _; rfl
            · intro _; rfl
          · show (rCS K (f7 s)).1 = 0
            rw [rCS_err hz]
        rw [this]; rfl
      have e5 : lft (rAn K s).2 = 0 := by unfold lft; rw [if_neg hc]
      rw [e4]
      simp only
      rw [if_neg hc]
      rcases answer_qs t (rA K s) with e | e
      · rw [e]; omega
      · rw [e, rA_ins, e4]
        simp only [List.foldl_nil]
        rw [setQ_length]
        omega
  · rw [if_neg h0] at h
    have hf : f7 s = s := f7_err h0
    obtain ⟨e1, e2⟩ := rA_err (K := K) (s := s) (by rw [hf]; exact h0)
    rw [e2, hf, answer_kn (rA_kn h0), if_neg h0]
    exact h
theorem Pot.all {K told : Nat} {x : DS} (h : Pot x.1 x.2.1) : ∀ k s t b, dA K told x k = some (s, t, b) → Pot s t
  | 0, s, t, b, e => by cases e; exact h
  | k + 1, s, t, b, e => by
    have e' : (dA K told x k).bind (dS K told) = some (s, t, b) := e
    rw [Option.bind_eq_some_iff] at e'
    obtain ⟨⟨s0, t0, b0⟩, h1, h2⟩ := e'
    have ih := Pot.all h k s0 t0 b0 h1
    unfold dS at h2
    split at h2
    · cases h2
    · cases h2
      exact ih.step
theorem dbnd_small {l : List UInt8} (h : l.length ≤ 600) : DBnd l := by
  have hp : Pot (hX l).1 (hX l).2.1 := by
    show (Tr.new _ _ _).qs.length * 3 + lft (rCS l.length (h6 l)).2 ≤ _
    have a0 : lft (l, 0) = l.length := rfl
    have a1 : lft (h1 l) ≤ lft (l, 0) := (rI_left _).2
    have a2 : lft (h2 l) ≤ lft (h1 l) := (rI_left _).2
    have a3 : lft (h3 l) ≤ lft (h2 l) := (rI_left _).2
    have a4 : lft (h4 l) ≤ lft (h3 l) := (rU_left _).2
    have a5 : lft (h5 l) ≤ lft (h4 l) := (rI_left _).2
    have a6 : lft (h6 l) ≤ lft (h5 l) := (rU_left _).2
    have a7 := (rCS_left l.length (h6 l)).2
    show 1 * 3 + _ ≤ _
    omega
  have hq : ∀ s t, Pot s t → t.qs.length ≤ 203 := fun s t hpt => by
    unfold Pot at hpt
    split at hpt <;> omega
  have hN : hN l ≤ l.length := rCS_le _ _
  refine ⟨by omega, fun k s t b _ e => ?_, fun s t b e => ?_, by omega⟩
  · have h1 := hq s t (hp.all k s t b e)
    have h2 : (rA l.length s).ins.length ≤ l.length := by rw [rA_len]; exact rCS_le _ _
    omega
  · have h1 := hq s t (hp.all _ s t b e)
    omega
end Go.Proofs.Ythfdngjbcgkkfaa

namespace Go.Proofs.Ythfdngjbcgkkfaa
open Go Go.RowKit

theorem dec_enc {l : List UInt8} {t : Tr} (h : dec l = some t) : encT t = l := by
  unfold dec dG dB dE at h
  simp only [Option.bind_eq_some_iff] at h
  obtain ⟨x, _, y, _, z, _, h⟩ := h
  split at h
  · rename_i hc; cases h; exact hc.2.2
  · cases h
set_option maxRecDepth 100000 in
set_option maxHeartbeats 4000000 in
theorem bytes_w (w : World) (v0 : Value) (l : List UInt8) (h : SlB w v0 l) :
    Calls Try.prog 8 #[v0] w fun e w' => e = .returned (.bool true) ∧ Keeps [] w w' := by
  have hD : l.length ≤ 600 → DBnd l := dbnd_small
  have hcap := h.cap
  obtain ⟨a0, c0, rfl⟩ := h.form
  obtain ⟨M, hM⟩ : ∃ N, l.length = N := ⟨_, rfl⟩
  rw [hM] at h hcap hD ⊢
  have hMx : M ≤ 9223372036854775807 := by unfold Go.maxLen at hcap; omega
  replace hM := Lib.hid hM
  replace h := Lib.hid h
  replace hD := Lib.hid hD
  by_cases hbig : 600 < M
  · have hb2 : (600 : Int) < M := by omega
    go_enter Try.func8, Try.ntmps8
    go_wp2_with fail
    refine (awake_c w).mono ?_
    rintro e w1 ⟨rfl, hk1⟩
    replace hk1 := Lib.hid hk1
    go_wp2_with fail
    refine (awake_c w1).mono ?_
    rintro e w2 ⟨rfl, hk2⟩
    replace hk2 := Lib.hid (hk1.out.trans hk2)
    go_wp2
    go_ret
    exact ⟨rfl, hk2.out⟩
  have hb2 : decide ((600 : Int) < M) = false := by simp; omega
  have hdc := fun W (hk : Keeps [] w W) => decode_c W _ l (h.out.keeps hk) (hD.out (by omega))
  replace hdc := Lib.hid hdc
  go_enter Try.func8, Try.ntmps8
  go_wp2_with fail
  refine (awake_c w).mono ?_
  rintro e w1 ⟨rfl, hk1⟩
  replace hk1 := Lib.hid hk1
  go_wp2_with fail
  have hdd := hdc.out w1 hk1.out
  refine hdd.mono ?_
  rintro e w2 ⟨hk2, ⟨_, rfl⟩ | ⟨t, bt, bm, vo, vh, vg, hds, rfl, hT, hE⟩⟩
  · replace hk2 := Lib.hid (hk1.out.trans hk2)
    clear hdd
    go_wp2
    go_ret
    exact ⟨rfl, hk2.out⟩
  · replace hk2 := Lib.hid (hk1.out.trans hk2)
    obtain ⟨tn, ht1, ht2⟩ := hE.tl
    have henc := encode_c w2 _ bt bm vo vh vg t tn hT hE.nm ht1 (by omega) hE.hl hE.hi (by have := hE.ag; omega)
    have heq := dec_enc hds
    rw [heq] at henc
    have hs0 : decide ((0 : Int) ≤ t.state) = true := by have := hE.st; simp; omega
    have hs4 : decide (t.state ≤ (4 : Int)) = true := by have := hE.st; simp; omega
    have hst := hE.st
    replace henc := Lib.hid henc
    replace hT := Lib.hid hT
    clear hdd hds heq hE ht1 ht2
    go_wp2_with fail
    refine henc.out.mono ?_
    rintro e w3 ⟨v3, rfl, hB3, hk3⟩
    have hsm := bsame_c w3 v3 (.slice a0 M c0) l l hB3.slB (h.out.keeps (hk2.out.trans hk3))
    rw [decide_eq_true rfl] at hsm
    have hT3 := hT.out.keeps hk3
    have hst3 := state_c w3 _ _ _ _ _ _ _ hT3
    obtain ⟨a3, c3, rfl⟩ := hB3.slB.form
    replace hsm := Lib.hid hsm
    replace hst3 := Lib.hid hst3
    replace hk3 := Lib.hid (hk2.out.trans hk3)
    clear hB3 hT3 henc
    go_wp2_with fail
    refine hsm.out.mono ?_
    rintro e w4 ⟨rfl, rfl⟩
    go_wp2_with fail
    refine hst3.out.mono ?_
    rintro e w5 ⟨rfl, rfl⟩
    go_wp2_with fail
    refine hst3.out.mono ?_
    rintro e w6 ⟨rfl, rfl⟩
    go_wp2
    go_ret
    exact ⟨rfl, hk3.out⟩
end Go.Proofs.Ythfdngjbcgkkfaa

namespace Go.Proofs.Ythfdngjbcgkkfaa
open Go Go.ChangeShapes Go.WideShapes Go.ChangeAt Go.RowKit

theorem shB_cs : ∀ l : List UInt8, shB.cs l = bys l
  | [] => rfl
  | x :: t => by
    show shB.cf x ++ shB.cs t = _
    rw [shB_cs t]; rfl
set_option maxRecDepth 100000 in
set_option maxHeartbeats 1000000 in
theorem open_bytes {H : Type} {enc : TypeId × Value → H} {W : World} {base : Nat} {r : Reach} {v : Value} {d : DataW H} {ps : List MemPlace} (hv : Value.okWide Try.prog W r base 28 v)
    (h : DataW.Trod enc Try.prog W 0 (fun _ => true) true 28 v d ps) : ∃ l : List UInt8, SlB W v l := by
  obtain ⟨a0, n0, c0, rfl⟩ := okWide_slice Try.underlying28 hv
  obtain ⟨L, hL, _⟩ := Gen.SlR.open (R := fun _ cs (x : UInt8) => cs = shB.cf x) Try.underlying28 (show Try.prog.cellsOf 5 = 1 by kernel_rfl) (by decide) (fun cs hcs => by
    obtain ⟨n, rfl, hw⟩ := Gen.Cs.int Try.underlying5 hcs
    have hb : 0 ≤ n ∧ n ≤ 255 := by simpa [Lit.wf, IntKind.min, IntKind.max, IntKind.signed, IntKind.bits] using hw
    refine ⟨UInt8.ofNat n.toNat, ?_⟩
    show [Value.int .u8 n] = [.int .u8 ((UInt8.ofNat n.toNat).toNat : Int)]
    congr 2
    simp; omega) (Gen.Cs.of_trod rfl h)
  refine ⟨L, ?_⟩
  have := Sh.R.of_slR (s := shB) (fun _ _ h => h) hL
  unfold Sh.R at this
  rw [shB_cs] at this
  exact this
end Go.Proofs.Ythfdngjbcgkkfaa
