/- Texts that the laws lean on, in the order in which they build. The two round trips of the channel's codec. Plain. The reference's Decode: the walk. (For the codec of the channel.) The reference's Decode: the walk. (For the codec of the channel.) The walk of the law on decoding. The reference's String and payload at the end of bytes. The reference's Encode. A run of operations: no payload waits that could be taken, and the waiting ones are short. -/
import Derived.Test.YtilmcdieihmiaaaK11
set_option linter.unusedVariables false
set_option linter.unusedSimpArgs false
namespace Go.Proofs.Ytilmcdieihmiaaa
open Go.RowKit

theorem rU_some {l r : List UInt8} {x : Nat} (h : readU l = some (x, r)) : rU (l, 0) = (x, (r, 0)) := by unfold rU; rw [if_pos rfl]; simp only [h]
theorem rU_enc (x : Nat) (l : List UInt8) (h : x < 18446744073709551616) : rU (encU x ++ l, 0) = (x, (l, 0)) := rU_some (readU_encU x l h)
theorem rS_enc (m l : List UInt8) (h : m.length ≤ 4096) : rS (encS m ++ l, 0) = (m, (l, 0)) := by
  have h1 : rU (encS m ++ l, 0) = (m.length, (m ++ l, 0)) := by unfold encS; rw [List.append_assoc]; exact rU_enc _ _ (by omega)
  have h2 : sE m.length (m ++ l) = 0 := by unfold sE; rw [if_neg (by omega), if_neg (by simp)]
  unfold rS
  rw [h1]
  simp [h2]
/-- The pieces from the k-th on. -/
def encPf (m : List UInt8) : Nat → Nat → List UInt8
  | _, 0 => []
  | k, n + 1 => encS (piece m k) ++ encPf m (k + 1) n
theorem encPs_f (m : List UInt8) : ∀ (n k : Nat), encPs m k ++ encPf m k n = encPs m (k + n)
  | 0, k => by simp [encPf]
  | n + 1, k => by
    have h := encPs_f m n (k + 1)
    rw [encPf, ← List.append_assoc, show encPs m k ++ encS (piece m k) = encPs m (k + 1) from rfl, h]
    congr 1; omega
theorem encPs_0 (m : List UInt8) (n : Nat) : encPs m n = encPf m 0 n := by
  have := encPs_f m n 0
  rw [Nat.zero_add] at this
  rw [← this]; rfl
theorem fl_0 (l : List UInt8) : fl (l, 0) = 0 := by unfold fl; split <;> rfl
theorem rpl_enc (m l : List UInt8) : ∀ (n k : Nat) (acc : List UInt8), k + n = pcs m.length → rpl n (encPf m k n ++ l, 0) acc = (0, acc ++ m.drop (k * 4096), (l, 0))
  | 0, k, acc, h => by
    have : m.length ≤ k * 4096 := by unfold pcs at h; omega
    rw [List.drop_eq_nil_of_le this]
    simp [encPf, rpl, fl_0]
  | n + 1, k, acc, h => by
    have hpl := piece_len m k
    have hlt : k * 4096 < m.length := by unfold pcs at h; omega
    have h4 : (piece m k).length ≤ 4096 := by rw [hpl]; unfold pcl; omega
    have h1 : 0 < (piece m k).length := by rw [hpl]; unfold pcl; omega
    have h2 : 0 < n → (piece m k).length = 4096 := fun hn => by rw [hpl]; unfold pcl; unfold pcs at h; omega
    have hr : rS (encPf m k (n + 1) ++ l, 0) = (piece m k, (encPf m (k + 1) n ++ l, 0)) := by rw [encPf, List.append_assoc]; exact rS_enc _ _ h4
    rw [rpl_succ, hr]
    simp only
    rw [fl_0, if_neg (show ¬ (0 : Int) ≠ 0 from fun x => x rfl), if_neg (show ¬ (piece m k = [] ∨ (0 < n ∧ (piece m k).length ≠ 4096)) from fun h => h.elim (fun e => by rw [e] at h1; simp at h1) (fun ⟨a, b⟩ => b (h2 a)))]
    rw [rpl_enc m l n (k + 1) _ (by omega), List.append_assoc]
    congr 3
    have : m.drop (k * 4096) = piece m k ++ m.drop ((k + 1) * 4096) := by
      unfold piece
      rw [show (k + 1) * 4096 = k * 4096 + 4096 by omega, ← List.drop_drop, List.take_append_drop]
    exact this.symm
theorem encPs_ge (m : List UInt8) : ∀ k, k ≤ (encPs m k).length
  | 0 => by simp
  | k + 1 => by
    have := encPs_ge m k
    have h1 : 1 ≤ (encS (piece m k)).length := by simp [encS, encU]
    rw [encPs, List.length_append]; omega
theorem rC_enc (n : Nat) (l : List UInt8) (hn : n ≤ 1024) (hl : n ≤ l.length) : rC (encU n ++ l) = (n, (l, 0)) := by
  have hr := readU_encU n l (by omega)
  have hc : cE n l = 0 := by unfold cE; rw [if_neg (by omega), if_neg (by omega)]
  unfold rC
  simp only [hr]
  rw [if_pos hc]
theorem readP_enc (m l : List UInt8) (h : m.length ≤ 4194304) : readP (encP m ++ l) = (0, m, (l, 0)) := by
  have hp : pcs m.length ≤ 1024 := by unfold pcs; omega
  have hr : rC (encP m ++ l) = (pcs m.length, (encPs m (pcs m.length) ++ l, 0)) := by
    unfold encP
    rw [List.append_assoc]
    exact rC_enc _ _ hp (by have := encPs_ge m (pcs m.length); simp; omega)
  unfold readP
  rw [hr]
  simp only
  rw [encPs_0, rpl_enc m l _ 0 [] (by omega)]
  simp
theorem wdE_enc (R : Nat) (l : List UInt8) : ∀ (es : List NB) (last : Nat) (acc : List NB), es.Pairwise (fun x y => x.1 < y.1) → (∀ x ∈ es, (last : Int) < x.1 ∧ x.1 ≤ (R : Int) + 1024 ∧ x.2.length ≤ 4194304) → R ≤ 1099511627776 →
    wdE R es.length last (encEs es ++ l, 0) acc = (0, acc ++ es, (l, 0))
  | [], last, acc, _, _, _ => by simp [wdE, encEs, fl_0]
  | (s, m) :: t, last, acc, hs, hx, hR => by
    obtain ⟨h1, h2⟩ := List.pairwise_cons.1 hs
    obtain ⟨p1, p2, p3⟩ := hx (s, m) (by simp)
    simp only at p1 p2 p3
    obtain ⟨n, rfl⟩ : ∃ n : Nat, s = n := ⟨s.toNat, by omega⟩
    have e0 : encEs (((n : Int), m) :: t) ++ l = encU n ++ (encP m ++ (encEs t ++ l)) := by simp [encEs]
    rw [e0, List.length_cons, wdE_succ, rU_enc n _ (by omega)]
    simp only
    rw [fl_0, if_neg (show ¬ (0 : Int) ≠ 0 from fun x => x rfl), if_neg (by omega), readP_enc m _ p3]
    simp only
    rw [if_neg (show ¬ (0 : Int) ≠ 0 from fun x => x rfl), wdE_enc R l t n _ h2 (fun x hx2 => ⟨h1 x hx2, (hx x (by simp [hx2])).2⟩) hR]
    simp
theorem wdK_enc : ∀ (ks : List Bytes) (acc : List Bytes), (∀ x ∈ ks, x.length ≤ 4194304) → wdK ks.length (encKs ks, 0) acc = (0, acc ++ ks, ([], 0))
  | [], acc, _ => by simp [wdK, encKs, doneE]
  | m :: t, acc, h => by
    have e0 : encKs (m :: t) = encP m ++ encKs t := by simp [encKs]
    rw [e0, List.length_cons, wdK_succ]
    simp only
    rw [readP_enc m _ (h m (by simp))]
    simp only
    rw [if_neg (show ¬ (0 : Int) ≠ 0 from fun x => x rfl), wdK_enc t _ (fun x hx => h x (by simp [hx]))]
    simp
theorem encEs_ge : ∀ (L : List NB), L.length ≤ (encEs L).length
  | [] => by simp
  | p :: t => by
    have := encEs_ge t
    have e : encEs (p :: t) = (encU p.1.toNat ++ encP p.2) ++ encEs t := by simp [encEs]
    have : 1 ≤ (encU p.1.toNat).length := by simp [encU]
    rw [e, List.length_append, List.length_append, List.length_cons]; omega
/-- An end that Decode gives back. -/
structure DOk (E : REnd) : Prop where
  s : E.sent ≤ 1099511627776
  aq : E.acked ≤ E.sent
  k : E.sent - E.acked = E.kept.length
  k2 : E.kept.length ≤ 1024
  r : E.received ≤ 1099511627776
  n : E.early.length ≤ 1024
  sorted : E.early.Pairwise (fun x y => x.1 < y.1)
  ek : ∀ x ∈ E.early, (E.received : Int) + 1 < x.1 ∧ x.1 ≤ (E.received : Int) + 1024
  ed : ∀ x ∈ E.early, x.2.length ≤ 4194304
  kd : ∀ x ∈ E.kept, x.length ≤ 4194304
theorem DOk.enc {E : REnd} (h : DOk E) : EncOk E :=
  ⟨h.s, by have := h.s; have := h.aq; omega, h.r, by have := h.n; omega, by have := h.k2; omega, fun x hx => by have := h.ek x hx; have := h.r; omega, fun x hx => by have := h.ed x hx; omega, fun x hx => by have := h.kd x hx; omega⟩
theorem encE_dec {E : REnd} (h : DOk E) : decP (encE E) = ⟨0, E.sent, E.acked, E.received, E.early, E.kept⟩ := by
  have hs := h.s
  have ha := h.aq
  have hr := h.r
  have hn := h.n
  have hk := h.k
  have hk2 := h.k2
  have e0 : encE E = encU E.sent ++ (encU E.acked ++ (encU E.received ++ (encU E.early.length ++ (encEs E.early ++ encKs E.kept)))) := by simp [encE, encHd]
  unfold decP
  rw [e0, rU_enc _ _ (by omega)]
  simp only
  rw [rU_enc _ _ (by omega)]
  simp only
  rw [rU_enc _ _ (by omega)]
  simp only
  unfold decE
  rw [fl_0, if_neg (show ¬ (0 : Int) ≠ 0 from fun x => x rfl), if_neg (by omega)]
  simp only
  rw [rC_enc _ _ hn (by have := encEs_ge E.early; simp; omega)]
  simp only
  have hE := wdE_enc E.received (encKs E.kept) E.early (E.received + 1) [] h.sorted (fun x hx => ⟨by have := (h.ek x hx).1; push_cast; omega, (h.ek x hx).2, h.ed x hx⟩) hr
  rw [hE]
  unfold decK
  simp only
  rw [if_neg (show ¬ (0 : Int) ≠ 0 from fun x => x rfl), hk, wdK_enc E.kept [] h.kd]
  simp
/-- The other way. -/
theorem encU_readU {l r : List UInt8} {x : Nat} (h : readU l = some (x, r)) : l = encU x ++ r := by
  cases l with
  | nil => cases h
  | cons k t =>
    rcases Classical.em (k.toNat ≤ 8 ∧ k.toNat ≤ t.length ∧ (0 < k.toNat → t.headD 1 ≠ 0)) with hc | hc
    · rw [readU, if_pos hc] at h
      simp only [Option.some.injEq, Prod.mk.injEq] at h
      obtain ⟨rfl, rfl⟩ := h
      have hl : (t.take k.toNat).length = k.toNat := by rw [List.length_take]; omega
      have hd := digs_valU k.toNat (t.take k.toNat) hl (fun b hb => by
        rw [List.getElem?_take] at hb
        split at hb
        · rename_i h0
          have := hc.2.2 (by omega)
          cases t with
          | nil => cases hb
          | cons a u => simp at hb this; rw [← hb]; exact this
        · cases hb)
      unfold encU
      rw [hd, hl]
      simp
    · rw [readU, if_neg hc] at h; cases h
theorem rU_inv {s : RS} (h : (rU s).2.2 = 0) : s.2 = 0 ∧ s.1 = encU (rU s).1 ++ (rU s).2.1 := by
  obtain ⟨l, e⟩ := s
  unfold rU at h ⊢
  split at h
  · rename_i h0
    simp only at h0
    subst h0
    simp only [if_true]
    cases hr : readU l with
    | none => rw [hr] at h; cases h
    | some p =>
      obtain ⟨x, r⟩ := p
      exact ⟨trivial, encU_readU hr⟩
  · rename_i h0
    exact absurd h h0
theorem rC_inv {l : List UInt8} (h : (rC l).2.2 = 0) : l = encU (rC l).1 ++ (rC l).2.1 ∧ (rC l).1 ≤ 1024 := by
  have hle := rC_le l
  unfold rC at h hle ⊢
  cases hr : readU l with
  | none => rw [hr] at h; cases h
  | some p =>
    obtain ⟨n, r⟩ := p
    simp only [hr] at h hle ⊢
    by_cases hc : cE n r = 0
    · rw [if_pos hc] at hle ⊢
      exact ⟨encU_readU hr, hle⟩
    · rw [if_neg hc] at h; exact absurd h hc
theorem rS_inv {s : RS} (h : (rS s).2.2 = 0) : s.2 = 0 ∧ s.1 = encS (rS s).1 ++ (rS s).2.1 := by
  unfold rS at h ⊢
  by_cases h0 : (rU s).2.2 = 0
  · obtain ⟨h1, h2⟩ := rU_inv h0
    simp only [h0, if_true] at h ⊢
    by_cases hc : sE (rU s).1 (rU s).2.1 = 0
    · obtain ⟨a, b⟩ := sE_ok hc
      simp only [hc, if_true] at h ⊢
      refine ⟨h1, ?_⟩
      unfold encS
      rw [List.length_take, Nat.min_eq_left b, List.append_assoc, List.take_append_drop]
      exact h2
    · simp only [hc, if_false] at h
  · simp only [h0, if_false] at h
/-- Pieces as they are read. -/
def Pcs (m : Nat) (ps : List Bytes) : Prop := ps.length = m ∧ ∀ k p, ps[k]? = some p → p ≠ [] ∧ p.length ≤ 4096 ∧ (k + 1 < m → p.length = 4096)
theorem rpl_inv : ∀ (m : Nat) (s : RS) (acc : List UInt8), Gd s → (rpl m s acc).1 = 0 → s.2 = 0 ∧ (rpl m s acc).2.2.2 = 0 ∧ ∃ ps, Pcs m ps ∧ (rpl m s acc).2.1 = acc ++ ps.flatten ∧ s.1 = (ps.map encS).flatten ++ (rpl m s acc).2.2.1
  | 0, s, acc, hg, h => ⟨fl_ok hg h, fl_ok hg h, [], ⟨rfl, fun k p hp => by simp at hp⟩, by simp [rpl], by simp [rpl]⟩
  | m + 1, s, acc, hg, h => by
    have hl := rS_len s
    have hg1 := rS_gd hg
    rw [rpl_succ] at h ⊢
    by_cases hf : fl (rS s).2 = 0
    · rw [if_neg (fun x => x hf)] at h ⊢
      by_cases hb : (rS s).1 = [] ∨ (0 < m ∧ (rS s).1.length ≠ 4096)
      · rw [if_pos hb] at h; cases h
      · rw [if_neg hb] at h ⊢
        obtain ⟨h1, h2, ps, ⟨h3, h3'⟩, h4, h5⟩ := rpl_inv m _ _ hg1 h
        obtain ⟨h6, h7⟩ := rS_inv h1
        refine ⟨h6, h2, (rS s).1 :: ps, ⟨by simp [h3], fun k p hp => ?_⟩, by rw [h4]; simp, ?_⟩
        · cases k with
          | zero =>
            simp at hp; subst hp
            exact ⟨fun e => hb (.inl e), hl, fun hm => Classical.byContradiction fun e => hb (.inr ⟨by omega, e⟩)⟩
          | succ k =>
            simp at hp
            obtain ⟨a, b, c⟩ := h3' k p hp
            exact ⟨a, b, fun hk => c (by omega)⟩
        · rw [h7, h5]; simp
    · rw [if_pos hf] at h; exact absurd h hf
theorem pcs_enc : ∀ (ps : List Bytes) (k : Nat) (pre : List UInt8), Pcs ps.length ps → (ps ≠ [] → pre.length = k * 4096) → (ps = [] → pcs pre.length = k) →
    encPf (pre ++ ps.flatten) k ps.length = (ps.map encS).flatten ∧ pcs (pre ++ ps.flatten).length = k + ps.length
  | [], k, pre, _, _, h => by simp [encPf, h rfl]
  | p :: t, k, pre, hP, hpre, _ => by
    have hk := hpre (by simp)
    obtain ⟨h1, h2, h3⟩ := hP.2 0 p rfl
    have hP' : Pcs t.length t := ⟨rfl, fun j q hq => by
      obtain ⟨a, b, c⟩ := hP.2 (j + 1) q (by simpa using hq)
      exact ⟨a, b, fun hj => c (by simp; omega)⟩⟩
    have hp0 : 0 < p.length := List.length_pos_iff.2 h1
    have e0 : pre ++ (p :: t).flatten = (pre ++ p) ++ t.flatten := by simp
    have hpc : piece (pre ++ (p :: t).flatten) k = p := by
      unfold piece
      rw [List.drop_append_of_le_length (by omega), List.drop_eq_nil_of_le (by omega)]
      cases t with
      | nil => rw [List.take_of_length_le (by simp; omega)]; simp
      | cons q u =>
        have h4 := h3 (by simp)
        simp [← h4]
    obtain ⟨i1, i2⟩ := pcs_enc t (k + 1) (pre ++ p) hP' (fun ht => by
      have h4 := h3 (by cases t with | nil => exact absurd rfl ht | cons q u => simp)
      rw [List.length_append]; omega) (fun ht => by rw [List.length_append]; unfold pcs; omega)
    rw [List.length_cons, encPf, hpc, e0, i1, i2]
    exact ⟨by simp, by omega⟩
theorem readP_inv {l : List UInt8} (h : (readP l).1 = 0) : (readP l).2.2.2 = 0 ∧ l = encP (readP l).2.1 ++ (readP l).2.2.1 ∧ (readP l).2.1.length ≤ 4194304 := by
  unfold readP at h ⊢
  obtain ⟨h1, h2, ps, ⟨h3, h3'⟩, h4, h5⟩ := rpl_inv _ _ _ (rC_gd l) h
  obtain ⟨h6, h7⟩ := rC_inv h1
  rw [List.nil_append] at h4
  obtain ⟨i1, i2⟩ := pcs_enc ps 0 [] ⟨rfl, by rw [h3]; exact h3'⟩ (fun _ => rfl) (fun _ => rfl)
  simp only [List.nil_append, Nat.zero_add] at i1 i2
  refine ⟨h2, ?_, ?_⟩
  · rw [h4]
    unfold encP
    rw [i2, encPs_0, i1, List.append_assoc, ← h5, h3]
    exact h6
  · rw [h4]
    have := i2
    unfold pcs at this
    omega
/-- What the reading of the early payloads has given. -/
theorem wdE_inv (R : Nat) : ∀ (m last : Nat) (s : RS) (es : List NB), Gd s → (wdE R m last s es).1 = 0 → s.2 = 0 ∧ (wdE R m last s es).2.2.2 = 0 ∧ ∃ es', (wdE R m last s es).2.1 = es ++ es' ∧ es'.length = m ∧
      s.1 = encEs es' ++ (wdE R m last s es).2.2.1 ∧ es'.Pairwise (fun x y => x.1 < y.1) ∧ ∀ x ∈ es', (last : Int) < x.1 ∧ x.1 ≤ (R : Int) + 1024 ∧ x.2.length ≤ 4194304
  | 0, last, s, es, hg, h => ⟨fl_ok hg h, fl_ok hg h, [], by simp [wdE], rfl, by simp [wdE, encEs], List.Pairwise.nil, by simp⟩
  | m + 1, last, s, es, hg, h => by
    have hg1 := rU_gd hg
    rw [wdE_succ] at h ⊢
    by_cases hf : fl (rU s).2 = 0
    · rw [if_neg (fun x => x hf)] at h ⊢
      by_cases hb : (rU s).1 ≤ last ∨ R + 1024 < (rU s).1
      · rw [if_pos hb] at h; cases h
      · rw [if_neg hb] at h ⊢
        by_cases hp : (readP (rU s).2.1).1 = 0
        · rw [if_neg (fun x => x hp)] at h ⊢
          obtain ⟨p1, p2, p3⟩ := readP_inv hp
          obtain ⟨h1, h2, es', h3, h4, h5, h6, h7⟩ := wdE_inv R m _ _ _ (readP_gd _) h
          obtain ⟨u1, u2⟩ := rU_inv (fl_ok hg1 hf)
          refine ⟨u1, h2, (((rU s).1 : Int), (readP (rU s).2.1).2.1) :: es', by rw [h3]; simp, by simp [h4], ?_, List.pairwise_cons.2 ⟨fun x hx => (h7 x hx).1, h6⟩, fun x hx => ?_⟩
          · have : encEs ((((rU s).1 : Int), (readP (rU s).2.1).2.1) :: es') = encU (rU s).1 ++ (encP (readP (rU s).2.1).2.1 ++ encEs es') := by simp [encEs]
            rw [this, List.append_assoc, List.append_assoc, ← h5, ← p2]
            exact u2
          · rcases List.mem_cons.1 hx with rfl | hx
            · exact ⟨by simp only; omega, by simp only; omega, p3⟩
            · have := h7 x hx
              exact ⟨by omega, this.2⟩
        · rw [if_pos hp] at h; exact absurd h hp
    · rw [if_pos hf] at h; exact absurd h hf
theorem wdK_inv : ∀ (m : Nat) (s : RS) (ks : List Bytes), s.2 = 0 → (wdK m s ks).1 = 0 → ∃ ks', (wdK m s ks).2.1 = ks ++ ks' ∧ ks'.length = m ∧ s.1 = encKs ks' ∧ ∀ x ∈ ks', x.length ≤ 4194304
  | 0, (l, e), ks, h0, h => by
    have hl : l = [] := by
      simp only at h0
      subst h0
      simp only [wdK, doneE] at h
      by_cases hl : l = []
      · exact hl
      · rw [if_pos ⟨trivial, hl⟩] at h; cases h
    exact ⟨[], by simp [wdK], rfl, by simp [encKs, hl], by simp⟩
  | m + 1, s, ks, h0, h => by
    rw [wdK_succ] at h ⊢
    by_cases hp : (readP s.1).1 = 0
    · rw [if_neg (fun x => x hp)] at h ⊢
      obtain ⟨p1, p2, p3⟩ := readP_inv hp
      obtain ⟨ks', h3, h4, h5, h6⟩ := wdK_inv m _ _ p1 h
      refine ⟨(readP s.1).2.1 :: ks', by rw [h3]; simp, by simp [h4], ?_, fun x hx => ?_⟩
      · have : encKs ((readP s.1).2.1 :: ks') = encP (readP s.1).2.1 ++ encKs ks' := by simp [encKs]
        rw [this, ← h5]; exact p2
      · rcases List.mem_cons.1 hx with rfl | hx
        · exact p3
        · exact h6 x hx
    · rw [if_pos hp] at h; exact absurd h hp
theorem decP_enc {l : List UInt8} (h : (decP l).err = 0) : DOk ⟨(decP l).a, (decP l).b, (decP l).ks, (decP l).c, (decP l).es⟩ ∧ encE ⟨(decP l).a, (decP l).b, (decP l).ks, (decP l).c, (decP l).es⟩ = l := by
  have hg := rU_gd (rU_gd (rU_gd (s := (l, 0)) (.inl rfl)))
  unfold decP decE at h ⊢
  split at h
  · rename_i hf; exact absurd h hf
  · rename_i hf
    have hf := Classical.not_not.1 hf
    rw [if_neg (fun x => x hf)]
    split at h
    · cases h
    · rename_i hb
      rw [if_neg hb]
      obtain ⟨u1, u2⟩ := rU_inv (fl_ok hg hf)
      obtain ⟨u3, u4⟩ := rU_inv u1
      obtain ⟨u5, u6⟩ := rU_inv u3
      simp only at u6
      generalize (rU (l, 0)).1 = a at *
      generalize (rU (l, 0)).2 = s1 at *
      generalize (rU s1).1 = b at *
      generalize (rU s1).2 = s2 at *
      generalize (rU s2).1 = c at *
      generalize (rU s2).2 = s3 at *
      unfold decK at h ⊢
      by_cases hE : (wdE c (rC s3.1).1 (c + 1) (rC s3.1).2 []).1 = 0
      · rw [if_neg (fun x => x hE)] at h ⊢
        obtain ⟨e1, e2, es', e3, e4, e5, e6, e7⟩ := wdE_inv c _ _ _ _ (rC_gd s3.1) hE
        by_cases hK : (wdK (a - b) (wdE c (rC s3.1).1 (c + 1) (rC s3.1).2 []).2.2 []).1 = 0
        · rw [if_neg (fun x => x hK)]
          obtain ⟨ks', k3, k4, k5, k6⟩ := wdK_inv _ _ _ e2 hK
          obtain ⟨c1, c2⟩ := rC_inv e1
          simp only [List.nil_append] at e3 k3
          rw [e3, k3]
          refine ⟨⟨by simp only; omega, by simp only; omega, by simp only; omega, by simp only; omega, by simp only; omega, by simp only; omega, e6, fun x hx => ⟨by have := (e7 x hx).1; push_cast at this; simp only; omega, (e7 x hx).2.1⟩, fun x hx => (e7 x hx).2.2, k6⟩, ?_⟩
          have e0 : encE ⟨a, b, ks', c, es'⟩ = encU a ++ (encU b ++ (encU c ++ (encU es'.length ++ (encEs es' ++ encKs ks')))) := by simp [encE, encHd]
          rw [e0, e4, ← k5, ← e5, ← c1, ← u2, ← u4, ← u6]
        · rw [if_pos hK] at h; exact absurd h hK
      · rw [if_pos hE] at h; exact absurd h hE
end Go.Proofs.Ytilmcdieihmiaaa

namespace Go.Proofs.Ytilmcdieihmiaaa
open Go.RowKit

/-- The three numbers are read and in order. -/
def DecOk (l : List UInt8) : Prop := (rU (rU (rU (l, 0)).2).2).2.2 = 0 ∧ ¬ (1099511627776 < (rU (l, 0)).1 ∨ (rU (l, 0)).1 < (rU (rU (l, 0)).2).1 ∨ 1024 < (rU (l, 0)).1 - (rU (rU (l, 0)).2).1 ∨ 1099511627776 < (rU (rU (rU (l, 0)).2).2).1)
set_option maxRecDepth 100000 in
set_option maxHeartbeats 4000000 in
theorem decodeR_bad (w : World) (v0 : Value) (l : List UInt8) (h : SlB w v0 l) (hcase : ¬ DecOk l) :
    Calls Try.prog 36 #[v0] w (RefPost w (refP l)) := by
  obtain ⟨D, hD⟩ : ∃ D, (∀ b, v0.ownBlock = some b → b = D) ∧ (l ≠ [] → D < w.heap.size) := by
    rcases h.cases with ⟨rfl, a, cp, rfl, _, _⟩ | ⟨g, o, cp, rfl, _, _, _, hg, _⟩
    · refine ⟨(Value.slice a 0 cp).ownBlock.getD 0, fun b hb => by rw [hb]; rfl, fun h => absurd rfl h⟩
    · exact ⟨g, fun b hb => by cases hb; rfl, fun _ => hg⟩
  obtain ⟨hDo, hDl⟩ := hD
  obtain ⟨a0, c0, rfl⟩ := h.form
  obtain ⟨LN, hLN⟩ : ∃ n, l.length = n := ⟨_, rfl⟩
  rw [hLN] at h hDo ⊢
  have hkA : Keeps [] w ((w.alloc zEnd).alloc (.cells #[.slice a0 LN c0, .int .i64 0] 97)) := ((Keeps.refl [] w).alloc _).alloc _
  have hbx : ((w.alloc zEnd).alloc (.cells #[.slice a0 LN c0, .int .i64 0] 97)).heap[w.heap.size]? = some zEnd := (((Keeps.refl [] (w.alloc zEnd)).alloc (.cells #[.slice a0 LN c0, .int .i64 0] 97)).block _ (by simp) (by simp)).trans (heap_alloc_new w _)
  have hR1 : RrS ((w.alloc zEnd).alloc (.cells #[.slice a0 LN c0, .int .i64 0] 97)) (w.heap.size + 1) D (l, 0) := by
    refine ⟨.slice a0 LN c0, ⟨?_, h.keeps hkA⟩, hDo⟩
    have := heap_alloc_new (w.alloc zEnd) (.cells #[.slice a0 LN c0, .int .i64 0] 97)
    simpa using this
  replace hkA := Lib.hid hkA
  replace hbx := Lib.hid hbx
  replace hR1 := Lib.hid hR1
  replace hDl := Lib.hid hDl
  clear h hDo
  go_enter Try.func36, Try.ntmps36
  go_wp2_with fail
  generalize (w.alloc zEnd).alloc (.cells #[.slice a0 LN c0, .int .i64 0] 97) = w1 at *
  obtain ⟨rx, hrx⟩ : ∃ rx, w.heap.size = rx := ⟨_, rfl⟩
  rw [hrx] at hbx hR1 hDl ⊢
  have hw1 := hkA.out.size
  rw [hrx] at hw1
  replace hrx := Lib.hid hrx
  have hlt1 := hR1.out.lt
  refine (uintRS_c w1 (rx + 1) _ hR1.out).mono ?_
  rintro e w2 ⟨rfl, hR2, hk2⟩
  have hbx2 := (hk2.block rx (by omega) (by simp)).trans hbx.out
  have hs12 := hk2.size
  replace hk2 := hkA.out.fresh hk2 (fun b hb => .inr (by simp at hb; have := hrx.out; omega))
  replace hR2 := Lib.hid hR2
  replace hbx2 := Lib.hid hbx2
  go_wp2_with fail
  refine (uintRS_c w2 (rx + 1) _ hR2.out).mono ?_
  rintro e w3 ⟨rfl, hR3, hk3⟩
  have hbx3 := (hk3.block rx (by omega) (by simp)).trans hbx2.out
  have hs23 := hk3.size
  replace hk3 := hk2.fresh hk3 (fun b hb => .inr (by simp at hb; have := hrx.out; omega))
  replace hR3 := Lib.hid hR3
  replace hbx3 := Lib.hid hbx3
  go_wp2_with fail
  refine (uintRS_c w3 (rx + 1) _ hR3.out).mono ?_
  rintro e w4 ⟨rfl, hR4, hk4⟩
  have hbx4 := (hk4.block rx (by omega) (by simp)).trans hbx3.out
  have hs34 := hk4.size
  replace hk4 := hk3.fresh hk4 (fun b hb => .inr (by simp at hb; have := hrx.out; omega))
  have hgd := rU_gd (rU_gd (rU_gd (s := (l, 0)) (.inl rfl)))
  have hA64 := rU_lt (l, 0)
  have hB64 := rU_lt (rU (l, 0)).2
  have hC64 := rU_lt (rU (rU (l, 0)).2).2
  have hfull := ref_full (l := l)
  unfold DecOk at hcase
  have hdP : refP l = refE (rU (l, 0)).1 (rU (rU (l, 0)).2).1 (rU (rU (rU (l, 0)).2).2).1 (rU (rU (rU (l, 0)).2).2).2 := rfl
  obtain ⟨A, hA⟩ : ∃ x, (rU (l, 0)).1 = x := ⟨_, rfl⟩
  obtain ⟨Bn, hBn⟩ : ∃ x, (rU (rU (l, 0)).2).1 = x := ⟨_, rfl⟩
  obtain ⟨Cn, hCn⟩ : ∃ x, (rU (rU (rU (l, 0)).2).2).1 = x := ⟨_, rfl⟩
  obtain ⟨⟨l3, E⟩, hs3⟩ : ∃ x, (rU (rU (rU (l, 0)).2).2).2 = x := ⟨_, rfl⟩
  rw [hA, hBn, hCn, hs3] at hdP
  rw [hA] at hA64
  rw [hBn] at hB64
  rw [hCn] at hC64
  rw [hs3] at hgd hR4 hfull
  rw [hs3, hA, hBn, hCn] at hcase
  simp only at hcase
  rw [hA, hBn, hCn]
  unfold refE at hdP
  simp only at hdP hfull
  obtain ⟨v4, hR4r, _⟩ := id hR4
  obtain ⟨q0, q1, _, _, hlt4⟩ := cell2_of hR4r.1
  simp only at q1
  have hfx : w4.frozen? ⟨rx, 0, none⟩ = false ∧ w4.frozen? ⟨rx, 1, none⟩ = false ∧ w4.frozen? ⟨rx, 2, none⟩ = false ∧ w4.frozen? ⟨rx, 3, none⟩ = false ∧ w4.frozen? ⟨rx, 4, none⟩ = false := by
    refine ⟨?_, ?_, ?_, ?_, ?_⟩ <;> simp [World.frozen?, hbx4]
  obtain ⟨fx0, fx1, fx2, fx3, fx4⟩ := hfx
  have hcx : w4.cell? ⟨rx, 0, none⟩ = some (.int .i64 0) ∧ w4.cell? ⟨rx, 1, none⟩ = some (.int .i64 0) ∧ w4.cell? ⟨rx, 2, none⟩ = some (.slice none 0 0) ∧ w4.cell? ⟨rx, 3, none⟩ = some (.int .i64 0) ∧ w4.cell? ⟨rx, 4, none⟩ = some (.slice none 0 0) := by
    refine ⟨?_, ?_, ?_, ?_, ?_⟩ <;> simp [World.cell?, hbx4]
  obtain ⟨x0, x1, x2, x3, x4⟩ := hcx
  have hfin := set5_all hbx4 (by simp [noB]) (.int .i64 0) (.int .i64 0) (.slice none 0 0) (.int .i64 0) (.slice none 0 0)
  replace hfin := Lib.hid hfin
  replace hR4 := Lib.hid hR4
  replace hbx4 := Lib.hid hbx4
  replace hk4 := Lib.hid hk4
  clear hR1 hR2 hR3 hbx hbx2 hbx3 hk2 hk3 hA hBn hCn hs3 hR4r q0 hkA
  by_cases hE0 : E = 0
  · subst hE0
    rw [if_neg (by simp)] at hdP
    have hbad : 1099511627776 < A ∨ A < Bn ∨ 1024 < A - Bn ∨ 1099511627776 < Cn := Decidable.not_not.1 (fun h => hcase ⟨rfl, h⟩)
    clear hgd hfull hcase
    rw [if_pos hbad] at hdP
    have hg : (decide ((1099511627776 : Int) < A) = true ∧ True) ∨ (decide ((1099511627776 : Int) < A) = false ∧ decide (A < Bn) = true ∧ True) ∨ (decide ((1099511627776 : Int) < A) = false ∧ decide (A < Bn) = false ∧ IntKind.u64.wrap ((A : Int) - Bn) = ((A - Bn : Nat) : Int) ∧ decide ((1024 : Int) < ((A - Bn : Nat) : Int)) = true) ∨
        (decide ((1099511627776 : Int) < A) = false ∧ decide (A < Bn) = false ∧ IntKind.u64.wrap ((A : Int) - Bn) = ((A - Bn : Nat) : Int) ∧ decide ((1024 : Int) < ((A - Bn : Nat) : Int)) = false ∧ decide ((1099511627776 : Int) < Cn) = true) := by
      by_cases g1 : 1099511627776 < A
      · exact .inl ⟨by simp; omega, trivial⟩
      · have g1' : decide ((1099511627776 : Int) < A) = false := by simp; omega
        by_cases g2 : A < Bn
        · exact .inr (.inl ⟨g1', by simp; omega, trivial⟩)
        · have gw : IntKind.u64.wrap ((A : Int) - Bn) = ((A - Bn : Nat) : Int) := by rw [IntKind.wrap_u64]; omega
          have g2' : decide (A < Bn) = false := by simp; omega
          by_cases g3 : 1024 < A - Bn
          · exact .inr (.inr (.inl ⟨g1', g2', gw, by simp; omega⟩))
          · exact .inr (.inr (.inr ⟨g1', g2', gw, by simp; omega, by simp; omega⟩))
    replace hdP := Lib.hid hdP
    replace hbad := Lib.hid hbad
    rcases hg with ⟨g1, _⟩ | ⟨g1, g2, _⟩ | ⟨g1, g2, gw, g3⟩ | ⟨g1, g2, gw, g3, g4⟩
    all_goals
      go_wp2
      obtain ⟨g1', g2', g3'⟩ := hfin.out
      refine bodyPost_ret (results_end2 rfl _ _ _ _ _ _ _ _ _ _ rfl g1') rfl ?_
      rw [hdP.out]
      exact ⟨_, _, rfl, SLs.nil _, SE.nil _, ((hk4.out.fresh g2' (fun b hb => .inr (by rw [List.mem_singleton] at hb; have := hrx.out; omega))))⟩
  · rw [if_pos hE0] at hdP
    have hEb : (E == 0) = false := by simp [hE0]
    replace hdP := Lib.hid hdP
    replace hE0 := Lib.hid hE0
    replace hgd := Lib.hid hgd
    replace hfull := Lib.hid hfull
    clear hcase
    go_wp2
    refine Free.wp_region_chain (fun i => i == 5) (fun i => true) (fun j b => j = 5 ∧ b = rx) (by kernel_rfl) (by kernel_rfl) (by kernel_rfl) ?_
    refine Free.cw_pure (c := .agg #[.int .i64 0, .int .i64 0, .slice none 0 0, .int .i64 0, .slice none 0 0]) rfl rfl ?_ ?_
    · intro w'
      have hb := run_build (P := Try.prog) w' 44 #[] #[.int .i64 0, .int .i64 0, .slice none 0 0, .int .i64 0, .slice none 0 0] (by kernel_rfl)
      unfold Free.Quiet
      simp [execOp, hb, Free.quietUpon]
    go_frame
    (repeat (first | (apply Free.cw_pure rfl rfl; (intro w'; go_simp <;> exact rfl); go_frame) | (apply Free.cw_steady rfl rfl rfl; (intro w' hS; have q0 := Free.sx_cell hS q1 (fun _ _ hT => by have := hT.2; omega); go_simp <;> exact rfl); go_frame) | (refine Free.cw_skip rfl ?_; go_frame)))
    refine Free.cw_loud rfl rfl (fun K hK => ?_)
    go_wp2
    have hkf := hfin.out.2.1
    refine hK _ _ rfl ⟨hkf.os, hkf.tape, hkf.output, hkf.size, fun j hj hn => hkf.block j hj (fun hm => hn ⟨trivial, by simpa using hm⟩)⟩ ?_
    clear hK K
    (repeat (apply Free.cw_pure rfl rfl; (intro w'; go_simp <;> exact rfl); go_frame))
    refine Free.cw_nil ?_
    obtain ⟨g1, g2, g3⟩ := hfin.out
    go_wp2
    refine bodyPost_ret (results_end2 rfl _ _ _ _ _ _ _ _ _ _ rfl g1) rfl ?_
    rw [hdP.out]
    have hrxk : ∀ b ∈ [rx], b ∈ ([] : List Nat) ∨ w.heap.size ≤ b := fun b hb => .inr (by rw [List.mem_singleton] at hb; have := hrx.out; omega)
    exact ⟨_, _, rfl, SLs.nil _, SE.nil _, (hk4.out.fresh g2 hrxk).drew⟩
end Go.Proofs.Ytilmcdieihmiaaa

namespace Go.Proofs.Ytilmcdieihmiaaa
open Go.RowKit

def refY (A Bn Cn : Nat) (es : List NB) : Option (List Bytes × RS) → Dd
  | none => .bad 11
  | some (ks, s') => if doneE s'.1 s'.2 ≠ 0 then .bad (doneE s'.1 s'.2) else ⟨0, A, Bn, Cn, es, ks⟩
theorem refK_some (a b c : Nat) (es : List NB) (s : RS) : refK a b c (some (es, s)) = refY a b c es (rdK (a - b) s []) := rfl
set_option maxRecDepth 100000 in
set_option maxHeartbeats 40000000 in
theorem decodeR_good (w : World) (v0 : Value) (l : List UInt8) (h : SlB w v0 l) (hcase : DecOk l) :
    Calls Try.prog 36 #[v0] w (RefPost w (refP l)) := by
  obtain ⟨D, hD⟩ : ∃ D, (∀ b, v0.ownBlock = some b → b = D) ∧ (l ≠ [] → D < w.heap.size) := by
    rcases h.cases with ⟨rfl, a, cp, rfl, _, _⟩ | ⟨g, o, cp, rfl, _, _, _, hg, _⟩
    · refine ⟨(Value.slice a 0 cp).ownBlock.getD 0, fun b hb => by rw [hb]; rfl, fun h => absurd rfl h⟩
    · exact ⟨g, fun b hb => by cases hb; rfl, fun _ => hg⟩
  obtain ⟨hDo, hDl⟩ := hD
  obtain ⟨a0, c0, rfl⟩ := h.form
  obtain ⟨LN, hLN⟩ : ∃ n, l.length = n := ⟨_, rfl⟩
  rw [hLN] at h hDo ⊢
  have hkA : Keeps [] w ((w.alloc zEnd).alloc (.cells #[.slice a0 LN c0, .int .i64 0] 97)) := ((Keeps.refl [] w).alloc _).alloc _
  have hbx : ((w.alloc zEnd).alloc (.cells #[.slice a0 LN c0, .int .i64 0] 97)).heap[w.heap.size]? = some zEnd := (((Keeps.refl [] (w.alloc zEnd)).alloc (.cells #[.slice a0 LN c0, .int .i64 0] 97)).block _ (by simp) (by simp)).trans (heap_alloc_new w _)
  have hR1 : RrS ((w.alloc zEnd).alloc (.cells #[.slice a0 LN c0, .int .i64 0] 97)) (w.heap.size + 1) D (l, 0) := by
    refine ⟨.slice a0 LN c0, ⟨?_, h.keeps hkA⟩, hDo⟩
    have := heap_alloc_new (w.alloc zEnd) (.cells #[.slice a0 LN c0, .int .i64 0] 97)
    simpa using this
  replace hkA := Lib.hid hkA
  replace hbx := Lib.hid hbx
  replace hR1 := Lib.hid hR1
  replace hDl := Lib.hid hDl
  clear h hDo
  go_enter Try.func36, Try.ntmps36
  go_wp2_with fail
  generalize (w.alloc zEnd).alloc (.cells #[.slice a0 LN c0, .int .i64 0] 97) = w1 at *
  obtain ⟨rx, hrx⟩ : ∃ rx, w.heap.size = rx := ⟨_, rfl⟩
  rw [hrx] at hbx hR1 hDl ⊢
  have hw1 := hkA.out.size
  rw [hrx] at hw1
  replace hrx := Lib.hid hrx
  have hlt1 := hR1.out.lt
  refine (uintRS_c w1 (rx + 1) _ hR1.out).mono ?_
  rintro e w2 ⟨rfl, hR2, hk2⟩
  have hbx2 := (hk2.block rx (by omega) (by simp)).trans hbx.out
  have hs12 := hk2.size
  replace hk2 := hkA.out.fresh hk2 (fun b hb => .inr (by simp at hb; have := hrx.out; omega))
  replace hR2 := Lib.hid hR2
  replace hbx2 := Lib.hid hbx2
  go_wp2_with fail
  refine (uintRS_c w2 (rx + 1) _ hR2.out).mono ?_
  rintro e w3 ⟨rfl, hR3, hk3⟩
  have hbx3 := (hk3.block rx (by omega) (by simp)).trans hbx2.out
  have hs23 := hk3.size
  replace hk3 := hk2.fresh hk3 (fun b hb => .inr (by simp at hb; have := hrx.out; omega))
  replace hR3 := Lib.hid hR3
  replace hbx3 := Lib.hid hbx3
  go_wp2_with fail
  refine (uintRS_c w3 (rx + 1) _ hR3.out).mono ?_
  rintro e w4 ⟨rfl, hR4, hk4⟩
  have hbx4 := (hk4.block rx (by omega) (by simp)).trans hbx3.out
  have hs34 := hk4.size
  replace hk4 := hk3.fresh hk4 (fun b hb => .inr (by simp at hb; have := hrx.out; omega))
  have hgd := rU_gd (rU_gd (rU_gd (s := (l, 0)) (.inl rfl)))
  have hA64 := rU_lt (l, 0)
  have hB64 := rU_lt (rU (l, 0)).2
  have hC64 := rU_lt (rU (rU (l, 0)).2).2
  have hfull := ref_full (l := l)
  unfold DecOk at hcase
  have hdP : refP l = refE (rU (l, 0)).1 (rU (rU (l, 0)).2).1 (rU (rU (rU (l, 0)).2).2).1 (rU (rU (rU (l, 0)).2).2).2 := rfl
  obtain ⟨A, hA⟩ : ∃ x, (rU (l, 0)).1 = x := ⟨_, rfl⟩
  obtain ⟨Bn, hBn⟩ : ∃ x, (rU (rU (l, 0)).2).1 = x := ⟨_, rfl⟩
  obtain ⟨Cn, hCn⟩ : ∃ x, (rU (rU (rU (l, 0)).2).2).1 = x := ⟨_, rfl⟩
  obtain ⟨⟨l3, E⟩, hs3⟩ : ∃ x, (rU (rU (rU (l, 0)).2).2).2 = x := ⟨_, rfl⟩
  rw [hA, hBn, hCn, hs3] at hdP
  rw [hA] at hA64
  rw [hBn] at hB64
  rw [hCn] at hC64
  rw [hs3] at hgd hR4 hfull
  rw [hs3, hA, hBn, hCn] at hcase
  simp only at hcase
  rw [hA, hBn, hCn]
  unfold refE at hdP
  simp only at hdP hfull
  obtain ⟨v4, hR4r, _⟩ := id hR4
  obtain ⟨q0, q1, _, _, hlt4⟩ := cell2_of hR4r.1
  simp only at q1
  have hfx : w4.frozen? ⟨rx, 0, none⟩ = false ∧ w4.frozen? ⟨rx, 1, none⟩ = false ∧ w4.frozen? ⟨rx, 2, none⟩ = false ∧ w4.frozen? ⟨rx, 3, none⟩ = false ∧ w4.frozen? ⟨rx, 4, none⟩ = false := by
    refine ⟨?_, ?_, ?_, ?_, ?_⟩ <;> simp [World.frozen?, hbx4]
  obtain ⟨fx0, fx1, fx2, fx3, fx4⟩ := hfx
  have hcx : w4.cell? ⟨rx, 0, none⟩ = some (.int .i64 0) ∧ w4.cell? ⟨rx, 1, none⟩ = some (.int .i64 0) ∧ w4.cell? ⟨rx, 2, none⟩ = some (.slice none 0 0) ∧ w4.cell? ⟨rx, 3, none⟩ = some (.int .i64 0) ∧ w4.cell? ⟨rx, 4, none⟩ = some (.slice none 0 0) := by
    refine ⟨?_, ?_, ?_, ?_, ?_⟩ <;> simp [World.cell?, hbx4]
  obtain ⟨x0, x1, x2, x3, x4⟩ := hcx
  have hfin := set5_all hbx4 (by simp [noB]) (.int .i64 0) (.int .i64 0) (.slice none 0 0) (.int .i64 0) (.slice none 0 0)
  replace hfin := Lib.hid hfin
  replace hR4 := Lib.hid hR4
  replace hbx4 := Lib.hid hbx4
  replace hk4 := Lib.hid hk4
  clear hR1 hR2 hR3 hbx hbx2 hbx3 hk2 hk3 hA hBn hCn hs3 hR4r q0 hkA
  obtain ⟨hE0, hbad⟩ := hcase
  subst hE0
  rw [if_neg (by simp)] at hdP
  have hDl2 := hDl.out (hfull rfl)
  clear hgd hfull
  rw [if_neg hbad] at hdP
  have g1 : decide ((1099511627776 : Int) < A) = false := by simp; omega
  have g2 : decide (A < Bn) = false := by simp; omega
  have gw : IntKind.u64.wrap ((A : Int) - Bn) = ((A - Bn : Nat) : Int) := by rw [IntKind.wrap_u64]; omega
  have g3 : decide ((1024 : Int) < ((A - Bn : Nat) : Int)) = false := by simp; omega
  have g4 : decide ((1099511627776 : Int) < Cn) = false := by simp; omega
  have hAle : A ≤ 1099511627776 := by omega
  have hCle : Cn ≤ 1099511627776 := by omega
  have gm : A - Bn ≤ 1024 := by omega
  have gi : IntKind.i64.wrap (A : Int) = A := IntWalk.i64_in _ (by omega)
  have gj : IntKind.i64.wrap (Bn : Int) = Bn := IntWalk.i64_in _ (by omega)
  have gk : IntKind.i64.wrap (Cn : Int) = Cn := IntWalk.i64_in _ (by omega)
  have gl : IntKind.u64.wrap ((Cn : Int) + 1) = (Cn : Int) + 1 := by rw [IntKind.wrap_u64]; omega
  replace hdP := Lib.hid hdP
  replace hbad := Lib.hid hbad
  replace gm := Lib.hid gm
  go_wp2_with fail
  have hk45 : Keeps [] w4 (w4.alloc (.cells #[.int .i64 A, .int .i64 Bn, .slice none 0 0, .int .i64 Cn, .slice none 0 0] tyEnd)) := (Keeps.refl [] w4).alloc _
  have hM0 : EndM (w4.alloc (.cells #[.int .i64 A, .int .i64 Bn, .slice none 0 0, .int .i64 Cn, .slice none 0 0] tyEnd)) rx w4.heap.size D A Bn Cn (.slice none 0 0) (.slice none 0 0) (l3, 0) [] [] :=
    ⟨(hk45.block rx (by omega) (by simp)).trans hbx4.out, heap_alloc_new w4 _, OE.nil _ _ _, KL.nil _ _, by simp [Value.ownBlock], by simp [Value.ownBlock], fun b hb => by simp [Value.ownBlock] at hb, hR4.out.keeps hk45, ⟨hDl2, by omega⟩⟩
  have hk05 := hk4.out.trans hk45
  generalize (w4.alloc (.cells #[.int .i64 A, .int .i64 Bn, .slice none 0 0, .int .i64 Cn, .slice none 0 0] tyEnd)) = w5 at *
  generalize w4.heap.size = cx at *
  refine (countRS_c w5 (rx + 1) l3 hM0.rd).mono ?_
  rintro e w6 ⟨rfl, hR6, hk6⟩
  have hM6 := hM0.read hk6 hR6
  have hk06 := hk05.fresh hk6 (fun b hb => .inr (by simp at hb; have := hrx.out; omega))
  have hNle := rC_le l3
  obtain ⟨N, hNe⟩ : ∃ N, (rC l3).1 = N := ⟨_, rfl⟩
  obtain ⟨s0, hs0⟩ : ∃ s, (rC l3).2 = s := ⟨_, rfl⟩
  obtain ⟨X, hX⟩ : ∃ X, rdE Cn (rC l3).1 (Cn + 1) (rC l3).2 [] = X := ⟨_, rfl⟩
  have hX2 : X = rdE Cn N (Cn + 1) s0 [] := by rw [← hX, hNe, hs0]
  have hdP := hdP.out
  rw [hX] at hdP
  rw [hNe] at hNle ⊢
  rw [hs0] at hM6
  replace hdP := Lib.hid hdP
  replace hX2 := Lib.hid hX2
  replace hM6 := Lib.hid hM6
  replace hk06 := Lib.hid hk06
  clear hR4 hbx4 hk4 hfin x0 x1 x2 x3 x4 fx0 fx1 fx2 fx3 fx4 q1 hlt4 hk45 hM0 hk05 hR6 hk6 hX hNe hs0 hw1 hlt1 hs12 hs23 hs34
  go_wp2
  go_loopw [10, 11] (fun lv iv wr => ∃ (k last : Nat) (s : RS) (es : List NB) (ve : Value), iv = .int .i64 k ∧ lv = .int .u64 last ∧ k ≤ N ∧ EndM wr rx cx D A Bn Cn (.slice none 0 0) ve s [] es ∧ X = rdE Cn (N - k) last s es ∧ es.length ≤ k ∧ Keeps [] w wr) (fun _ iv _ => N - (intOf iv).toNat)
  case atStart => exact ⟨0, Cn + 1, s0, [], .slice none 0 0, rfl, by simp, by omega, hM6.out, hX2.out, by simp, hk06.out⟩
  case round =>
    obtain ⟨k, last, s, es, ve, rfl, rfl, hk, hM, heq, hesl, hkw⟩ := hrel
    clear hM6 hX2 hk06
    obtain ⟨v5, hR5r, _⟩ := id hM.rd
    have q1 := (cell2_of hR5r.1).2.1
    obtain ⟨ls, Es⟩ := s
    simp only at q1
    by_cases hgo : k < N ∧ Es = 0
    · obtain ⟨hlt, hEs⟩ := hgo
      subst hEs
      have hsucc : N - k = (N - (k + 1)) + 1 := by omega
      rw [hsucc, rdE_succ, if_neg (by simp)] at heq
      replace hM := Lib.hid hM
      replace hkw := Lib.hid hkw
      have hkI : (k : Int) < N := by omega
      clear hR5r hsucc
      go_wp2_with fail
      refine (uintRS_c wr (rx + 1) _ hM.out.rd).mono ?_
      rintro e wa ⟨rfl, hRa, hka⟩
      have hMa := hM.out.read hka hRa
      have hkwa := hkw.out.fresh hka (fun b hb => .inr (by simp at hb; have := hrx.out; omega))
      have hxlt := rU_lt (ls, 0)
      have hx0 := rU_err0 (s := (ls, 0))
      obtain ⟨x, hx⟩ : ∃ x, (rU (ls, 0)).1 = x := ⟨_, rfl⟩
      obtain ⟨⟨l1, E1⟩, hs1⟩ : ∃ x, (rU (ls, 0)).2 = x := ⟨_, rfl⟩
      rw [hx, hs1] at heq hx0
      rw [hx] at hxlt
      rw [hs1] at hMa
      rw [hx]
      simp only at heq hx0
      clear hx hs1 hRa hka hM hkw q1
      obtain ⟨v6, hR6r, _⟩ := id hMa.rd
      have q1 := (cell2_of hR6r.1).2.1
      simp only at q1
      clear hR6r
      have hfx := hMa.bx
      obtain ⟨y0, y1, y2, y3, y4, yf, _⟩ := cells5 hfx
      have yf0 := yf 0
      have yf1 := yf 1
      have yf2 := yf 2
      have yf3 := yf 3
      have yf4 := yf 4
      have hfinA := set5_all hfx (by simp [noB]) (.int .i64 0) (.int .i64 0) (.slice none 0 0) (.int .i64 0) (.slice none 0 0)
      have hrxk : ∀ b ∈ [rx], b ∈ ([] : List Nat) ∨ w.heap.size ≤ b := fun b hb => .inr (by simp at hb; have := hrx.out; omega)
      have hDa : D < wa.heap.size := by have := hMa.lt; have := (Array.getElem?_eq_some_iff.1 hMa.bx).1; omega
      have hwx2 : IntKind.u64.wrap ((Cn : Int) + 1024) = (Cn : Int) + 1024 := by rw [IntKind.wrap_u64]; omega
      replace hMa := Lib.hid hMa
      replace hkwa := Lib.hid hkwa
      replace hfinA := Lib.hid hfinA
      replace hrxk := Lib.hid hrxk
      clear hfx yf
      by_cases hbad2 : E1 = 0 ∧ (x ≤ last ∨ Cn + 1024 < x)
      · rw [if_pos hbad2] at heq
        obtain ⟨hE1, hb2⟩ := hbad2
        subst hE1
        have hde : refP l = .bad 11 := by rw [hdP.out, heq]; rfl
        have hg : (decide (x ≤ last) = true ∧ True) ∨ (decide (x ≤ last) = false ∧ decide ((Cn : Int) + 1024 < (x : Int)) = true) := by
          by_cases h : x ≤ last
          · exact .inl ⟨by simp [h], trivial⟩
          · exact .inr ⟨by simp; omega, by simp; omega⟩
        replace hde := Lib.hid hde
        replace heq := Lib.hid heq
        replace hb2 := Lib.hid hb2
        rcases hg with ⟨g5, _⟩ | ⟨g5, g6⟩
        all_goals
          go_wp2
          obtain ⟨g1', g2', g3'⟩ := hfinA.out
          refine bodyPost_ret (results_end2 rfl _ _ _ _ _ _ _ _ _ _ rfl g1') rfl ?_
          rw [hde.out]
          exact ⟨_, _, rfl, SLs.nil _, SE.nil _, hkwa.out.fresh g2' hrxk.out⟩
      · rw [if_neg hbad2] at heq
        by_cases hE1 : E1 = 0
        · subst hE1
          have hnb : ¬ (x ≤ last ∨ Cn + 1024 < x) := fun h => hbad2 ⟨rfl, h⟩
          have g5 : decide (x ≤ last) = false := by simp; omega
          have g6 : decide ((Cn : Int) + 1024 < (x : Int)) = false := by simp; omega
          have hx63 : x < 9223372036854775808 := by omega
          replace hbad2 := Lib.hid hbad2
          replace hnb := Lib.hid hnb
          replace hx0 := Lib.hid hx0
          go_wp2_with fail
          refine (read_c wa (rx + 1) _ hMa.out.rd hDa).mono ?_
          rintro e wb ⟨v, rfl, hBv, hRb, hkb⟩
          have hMb := hMa.out.read hkb hRb
          have hkwb := hkwa.out.fresh hkb (fun b hb => .inr (by rw [List.mem_singleton] at hb; have := hrx.out; omega))
          obtain ⟨OK, hOK⟩ : ∃ F, (readR (l1, 0)).1 = F := ⟨_, rfl⟩
          obtain ⟨m, hm⟩ : ∃ F, (readR (l1, 0)).2.1 = F := ⟨_, rfl⟩
          obtain ⟨⟨l2, E2⟩, hs2⟩ : ∃ F, (readR (l1, 0)).2.2 = F := ⟨_, rfl⟩
          rw [hOK, hm, hs2] at heq
          rw [hm] at hBv
          rw [hs2] at hMb
          rw [hOK]
          simp only at heq
          obtain ⟨av, cv, rfl⟩ := hBv.form
          obtain ⟨ML, hML⟩ : ∃ n, m.length = n := ⟨_, rfl⟩
          rw [hML] at hBv ⊢
          replace hML := Lib.hid hML
          clear hOK hm hs2 hRb hkb q1
          obtain ⟨v7, hR7r, _⟩ := id hMb.rd
          have q1 := (cell2_of hR7r.1).2.1
          simp only at q1
          clear hR7r
          obtain ⟨_, _, _, _, c4, cf, hcxl⟩ := cells5 hMb.cbx
          have f4 := cf 4
          obtain ⟨EL, hEL⟩ : ∃ n, es.length = n := ⟨_, rfl⟩
          obtain ⟨ae, ce, hve⟩ := hMb.oe.se.form
          rw [hEL] at hve hesl
          subst hve
          have hown : ∀ b ∈ cx :: (Value.slice ae EL ce).ownBlock.toList, w.heap.size ≤ b := fun b hb => by
            have h0 := hrx.out
            have h1 := hMb.lt
            rcases List.mem_cons.1 hb with rfl | hb
            · omega
            · have := (hMb.oe.ge b (by simpa using hb)).1; omega
          have hAl : Keeps [] wb (wb.alloc (.cells #[.int .i64 (x : Int), .slice av ML cv] 101)) := (Keeps.refl [] wb).alloc _
          have hltm := hMb.lt
          have hwx : IntKind.i64.wrap (x : Int) = (x : Int) := IntWalk.i64_in _ (by omega)
          replace hEL := Lib.hid hEL
          replace hown := Lib.hid hown
          replace hAl := Lib.hid hAl
          replace hMb := Lib.hid hMb
          replace hkwb := Lib.hid hkwb
          replace hBv := Lib.hid hBv
          clear cf hMa hkwa
          by_cases hE2 : E2 = 0
          · subst hE2
            cases OK with
            | false =>
              rw [if_pos ⟨rfl, rfl⟩] at heq
              have hde : refP l = .bad 11 := by rw [hdP.out, heq]; rfl
              have hfinB := set5_all hMb.out.bx (by simp [noB]) (.int .i64 0) (.int .i64 0) (.slice none 0 0) (.int .i64 0) (.slice none 0 0)
              obtain ⟨z0, z1, z2, z3, z4, zf, _⟩ := cells5 hMb.out.bx
              have zf0 := zf 0
              have zf1 := zf 1
              have zf2 := zf 2
              have zf3 := zf 3
              have zf4 := zf 4
              replace hfinB := Lib.hid hfinB
              replace hde := Lib.hid hde
              replace heq := Lib.hid heq
              clear zf
              go_wp2
              obtain ⟨g1', g2', g3'⟩ := hfinB.out
              refine bodyPost_ret (results_end2 rfl _ _ _ _ _ _ _ _ _ _ rfl g1') rfl ?_
              rw [hde.out]
              exact ⟨_, _, rfl, SLs.nil _, SE.nil _, hkwb.out.fresh g2' hrxk.out⟩
            | true =>
              rw [if_neg (by simp)] at heq
              replace heq := Lib.hid heq
              go_wp2_with (
                at_builtin
                refine wpl_appE tyE 42 Try.underlying42 infoE _ (rx + 2) (.slice ae EL ce) _ es [((x : Int), m)] rfl _ _ rfl rfl rfl (hMb.out.oe.keep hAl.out (by simp) hAl.out.kb0) (SE.one wb _ _ _ _ hBv.out.slB) (by rw [hEL.out]; simp; omega) (by simp; omega) ?_
                intro v2 w2 hO2 hG2 hkb2
                have hfx2 := hMb.out.pushE hAl.out hG2 hkb2 hO2
                have c42 : w2.cell? ⟨cx, 4, none⟩ = some (.slice ae EL ce) := (World.cell?_of_block (w := wb) (a := ⟨cx, 4, none⟩) ((hG2.grown.block cx (by simp; omega) (fun e => hMb.out.ce e.symm)).trans (hAl.out.block cx hcxl (by simp)))).trans c4
                have f42 : w2.frozen? ⟨cx, 4, none⟩ = false := (World.frozen?_of_block (w := wb) (a := ⟨cx, 4, none⟩) ((hG2.grown.block cx (by simp; omega) (fun e => hMb.out.ce e.symm)).trans (hAl.out.block cx hcxl (by simp)))).trans f4
                obtain ⟨a2, cp2, rfl⟩ : ∃ a c, v2 = .slice a (EL + 1) c := by
                  have := hO2.se.form
                  simpa [hEL.out] using this
                replace hfx2 := Lib.hid hfx2
                clear hO2 hG2 hkb2
                simp (config := { maxSteps := 4000000 }) only [Act.put, List.setIfInBounds_toArray, List.set_cons_succ, List.set_cons_zero])
              go_roundw
              case rel => exact ⟨k + 1, x, (l2, 0), es ++ [((x : Int), m)], _, rfl, rfl, by omega, hfx2.out.1, heq.out, by simp [hEL.out]; omega, hkwb.out.fresh hfx2.out.2 (fun b hb => .inr (hown b hb))⟩
              case measure => simp [intOf]; omega
          · rw [if_neg (fun h => hE2 h.1)] at heq
            have hE2b : (E2 == 0) = false := by simp [hE2]
            replace heq := Lib.hid heq
            replace hE2 := Lib.hid hE2
            go_wp2_with (
              at_builtin
              refine wpl_appE tyE 42 Try.underlying42 infoE _ (rx + 2) (.slice ae EL ce) _ es [((x : Int), m)] rfl _ _ rfl rfl rfl (hMb.out.oe.keep hAl.out (by simp) hAl.out.kb0) (SE.one wb _ _ _ _ hBv.out.slB) (by rw [hEL.out]; simp; omega) (by simp; omega) ?_
              intro v2 w2 hO2 hG2 hkb2
              have hfx2 := hMb.out.pushE hAl.out hG2 hkb2 hO2
              have c42 : w2.cell? ⟨cx, 4, none⟩ = some (.slice ae EL ce) := (World.cell?_of_block (w := wb) (a := ⟨cx, 4, none⟩) ((hG2.grown.block cx (by simp; omega) (fun e => hMb.out.ce e.symm)).trans (hAl.out.block cx hcxl (by simp)))).trans c4
              have f42 : w2.frozen? ⟨cx, 4, none⟩ = false := (World.frozen?_of_block (w := wb) (a := ⟨cx, 4, none⟩) ((hG2.grown.block cx (by simp; omega) (fun e => hMb.out.ce e.symm)).trans (hAl.out.block cx hcxl (by simp)))).trans f4
              obtain ⟨a2, cp2, rfl⟩ : ∃ a c, v2 = .slice a (EL + 1) c := by
                have := hO2.se.form
                simpa [hEL.out] using this
              replace hfx2 := Lib.hid hfx2
              clear hO2 hG2 hkb2
              simp (config := { maxSteps := 4000000 }) only [Act.put, List.setIfInBounds_toArray, List.set_cons_succ, List.set_cons_zero])
            go_roundw
            case rel => exact ⟨k + 1, x, (l2, E2), es ++ [((x : Int), m)], _, rfl, rfl, by omega, hfx2.out.1, heq.out, by simp [hEL.out]; omega, hkwb.out.fresh hfx2.out.2 (fun b hb => .inr (hown b hb))⟩
            case measure => simp [intOf]; omega
        · have hE1b : (E1 == 0) = false := by simp [hE1]
          have hx00 := hx0 hE1
          have hx63 : x < 9223372036854775808 := by omega
          have hrr : readR (l1, E1) = (true, [], (l1, E1)) := by unfold readR; rw [if_neg hE1]
          replace hbad2 := Lib.hid hbad2
          replace hx00 := Lib.hid hx00
          replace hx0 := Lib.hid hx0
          replace hrr := Lib.hid hrr
          replace hE1 := Lib.hid hE1
          go_wp2_with fail
          refine (read_c wa (rx + 1) _ hMa.out.rd hDa).mono ?_
          rintro e wb ⟨v, rfl, hBv, hRb, hkb⟩
          have hMb := hMa.out.read hkb hRb
          have hkwb := hkwa.out.fresh hkb (fun b hb => .inr (by rw [List.mem_singleton] at hb; have := hrx.out; omega))
          obtain ⟨OK, hOK⟩ : ∃ F, (readR (l1, E1)).1 = F := ⟨_, rfl⟩
          obtain ⟨m, hm⟩ : ∃ F, (readR (l1, E1)).2.1 = F := ⟨_, rfl⟩
          obtain ⟨⟨l2, E2⟩, hs2⟩ : ∃ F, (readR (l1, E1)).2.2 = F := ⟨_, rfl⟩
          rw [hOK, hm, hs2] at heq
          rw [hm] at hBv
          rw [hs2] at hMb
          rw [hOK]
          simp only at heq
          have hE2e : E2 = E1 := by have := hs2; rw [hrr.out] at this; exact (congrArg Prod.snd this).symm
          obtain ⟨av, cv, rfl⟩ := hBv.form
          obtain ⟨ML, hML⟩ : ∃ n, m.length = n := ⟨_, rfl⟩
          rw [hML] at hBv ⊢
          replace hML := Lib.hid hML
          clear hOK hm hs2 hRb hkb q1
          obtain ⟨v7, hR7r, _⟩ := id hMb.rd
          have q1 := (cell2_of hR7r.1).2.1
          simp only at q1
          clear hR7r
          obtain ⟨_, _, _, _, c4, cf, hcxl⟩ := cells5 hMb.cbx
          have f4 := cf 4
          obtain ⟨EL, hEL⟩ : ∃ n, es.length = n := ⟨_, rfl⟩
          obtain ⟨ae, ce, hve⟩ := hMb.oe.se.form
          rw [hEL] at hve hesl
          subst hve
          have hown : ∀ b ∈ cx :: (Value.slice ae EL ce).ownBlock.toList, w.heap.size ≤ b := fun b hb => by
            have h0 := hrx.out
            have h1 := hMb.lt
            rcases List.mem_cons.1 hb with rfl | hb
            · omega
            · have := (hMb.oe.ge b (by simpa using hb)).1; omega
          have hAl : Keeps [] wb (wb.alloc (.cells #[.int .i64 (x : Int), .slice av ML cv] 101)) := (Keeps.refl [] wb).alloc _
          have hltm := hMb.lt
          have hwx : IntKind.i64.wrap (x : Int) = (x : Int) := IntWalk.i64_in _ (by omega)
          replace hEL := Lib.hid hEL
          replace hown := Lib.hid hown
          replace hAl := Lib.hid hAl
          replace hMb := Lib.hid hMb
          replace hkwb := Lib.hid hkwb
          replace hBv := Lib.hid hBv
          clear cf hMa hkwa
          have hE2 : E2 ≠ 0 := by rw [hE2e]; exact hE1.out
          rw [if_neg (fun h => hE2 h.1)] at heq
          have hE2b : (E2 == 0) = false := by simp [hE2]
          replace heq := Lib.hid heq
          replace hE2 := Lib.hid hE2
          replace hE2e := Lib.hid hE2e
          go_wp2_with (
            at_builtin
            refine wpl_appE tyE 42 Try.underlying42 infoE _ (rx + 2) (.slice ae EL ce) _ es [((x : Int), m)] rfl _ _ rfl rfl rfl (hMb.out.oe.keep hAl.out (by simp) hAl.out.kb0) (SE.one wb _ _ _ _ hBv.out.slB) (by rw [hEL.out]; simp; omega) (by simp; omega) ?_
            intro v2 w2 hO2 hG2 hkb2
            have hfx2 := hMb.out.pushE hAl.out hG2 hkb2 hO2
            have c42 : w2.cell? ⟨cx, 4, none⟩ = some (.slice ae EL ce) := (World.cell?_of_block (w := wb) (a := ⟨cx, 4, none⟩) ((hG2.grown.block cx (by simp; omega) (fun e => hMb.out.ce e.symm)).trans (hAl.out.block cx hcxl (by simp)))).trans c4
            have f42 : w2.frozen? ⟨cx, 4, none⟩ = false := (World.frozen?_of_block (w := wb) (a := ⟨cx, 4, none⟩) ((hG2.grown.block cx (by simp; omega) (fun e => hMb.out.ce e.symm)).trans (hAl.out.block cx hcxl (by simp)))).trans f4
            obtain ⟨a2, cp2, rfl⟩ : ∃ a c, v2 = .slice a (EL + 1) c := by
              have := hO2.se.form
              simpa [hEL.out] using this
            replace hfx2 := Lib.hid hfx2
            clear hO2 hG2 hkb2
            simp (config := { maxSteps := 4000000 }) only [Act.put, List.setIfInBounds_toArray, List.set_cons_succ, List.set_cons_zero])
          go_roundw
          case rel => exact ⟨k + 1, x, (l2, E2), es ++ [((x : Int), m)], _, rfl, rfl, by omega, hfx2.out.1, heq.out, by simp [hEL.out]; omega, hkwb.out.fresh hfx2.out.2 (fun b hb => .inr (hown b hb))⟩
          case measure => simp [intOf]; omega
    · have hex : X = some (es, (ls, Es)) := by
        rw [heq]
        by_cases hk2 : k < N
        · rw [show N - k = (N - (k + 1)) + 1 by omega, rdE_succ, if_pos (fun h => hgo ⟨hk2, h⟩)]
        · rw [show N - k = 0 by omega]; rfl
      obtain ⟨Y, hY⟩ : ∃ Y, rdK (A - Bn) (ls, Es) [] = Y := ⟨_, rfl⟩
      have hdP2 : refP l = refY A Bn Cn es Y := by rw [hdP.out, hex, refK_some, hY]
      have hexit : (decide (k < N) = false ∧ True) ∨ (decide (k < N) = true ∧ (Es == 0) = false) := by
        by_cases hk2 : k < N
        · exact .inr ⟨by simp [hk2], by simp; exact fun h => hgo ⟨hk2, h⟩⟩
        · exact .inl ⟨by simp [hk2], trivial⟩
      have hgm := gm.out
      replace hdP2 := Lib.hid hdP2
      replace hM := Lib.hid hM
      replace hkw := Lib.hid hkw
      replace heq := Lib.hid heq
      replace hex := Lib.hid hex
      replace hgo := Lib.hid hgo
      replace hY := Lib.hid hY
      clear hR5r
      rcases hexit with ⟨g7, _⟩ | ⟨g7, g8⟩
      all_goals
        go_wp2
        go_loopw [15] (fun iv wr => ∃ (k2 : Nat) (s : RS) (ks : List Bytes) (vk : Value), iv = .int .u64 k2 ∧ k2 ≤ A - Bn ∧ EndM wr rx cx D A Bn Cn vk ve s ks es ∧ Y = rdK (A - Bn - k2) s ks ∧ ks.length ≤ k2 ∧ Keeps [] w wr) (fun iv _ => A - Bn - (intOf iv).toNat)
        case atStart => exact ⟨0, (ls, Es), [], .slice none 0 0, rfl, by omega, hM.out, by rw [Nat.sub_zero]; exact hY.out.symm, by simp, hkw.out⟩
        case round =>
          obtain ⟨k2, s2, ks, vk, rfl, hk2, hM2, heq2, hksl, hkw2⟩ := hrel
          clear hM hkw hY q1
          obtain ⟨v8, hR8r, _⟩ := id hM2.rd
          have q1 := (cell2_of hR8r.1).2.1
          obtain ⟨ls2, Es2⟩ := s2
          simp only at q1
          clear hR8r
          by_cases hgo2 : k2 < A - Bn ∧ Es2 = 0
          · obtain ⟨hk3, hEs2⟩ := hgo2
            subst hEs2
            have hsucc : A - Bn - k2 = (A - Bn - (k2 + 1)) + 1 := by omega
            rw [hsucc, rdK_succ, if_neg (by simp)] at heq2
            have hk3I : (k2 : Int) < ((A - Bn : Nat) : Int) := by omega
            have hDr : D < wr.heap.size := by have := hM2.lt; have := (Array.getElem?_eq_some_iff.1 hM2.bx).1; omega
            replace hM2 := Lib.hid hM2
            replace hkw2 := Lib.hid hkw2
            clear hsucc
            go_wp2_with fail
            refine (read_c wr (rx + 1) _ hM2.out.rd hDr).mono ?_
            rintro e wb ⟨v, rfl, hBv, hRb, hkb⟩
            have hMb := hM2.out.read hkb hRb
            have hkwb := hkw2.out.fresh hkb (fun b hb => .inr (by rw [List.mem_singleton] at hb; have := hrx.out; omega))
            obtain ⟨OK, hOK⟩ : ∃ F, (readR (ls2, 0)).1 = F := ⟨_, rfl⟩
            obtain ⟨m, hm⟩ : ∃ F, (readR (ls2, 0)).2.1 = F := ⟨_, rfl⟩
            obtain ⟨⟨l2, E2⟩, hs2⟩ : ∃ F, (readR (ls2, 0)).2.2 = F := ⟨_, rfl⟩
            rw [hOK, hm, hs2] at heq2
            rw [hm] at hBv
            rw [hs2] at hMb
            rw [hOK]
            simp only at heq2
            obtain ⟨av, cv, rfl⟩ := hBv.form
            obtain ⟨ML, hML⟩ : ∃ n, m.length = n := ⟨_, rfl⟩
            rw [hML] at hBv ⊢
            replace hML := Lib.hid hML
            clear hOK hm hs2 hRb hkb q1 hM2 hkw2
            obtain ⟨v9, hR9r, _⟩ := id hMb.rd
            have q1 := (cell2_of hR9r.1).2.1
            simp only at q1
            clear hR9r
            obtain ⟨_, _, c2k, _, _, cf, hcxl⟩ := cells5 hMb.cbx
            have f2k := cf 2
            obtain ⟨KN, hKN⟩ : ∃ n, ks.length = n := ⟨_, rfl⟩
            obtain ⟨ak, ck, hvk⟩ := hMb.kl.form
            rw [hKN] at hvk hksl
            subst hvk
            have hown : ∀ b ∈ cx :: (Value.slice ak KN ck).ownBlock.toList, w.heap.size ≤ b := fun b hb => by
              have h0 := hrx.out
              have h1 := hMb.lt
              rcases List.mem_cons.1 hb with rfl | hb
              · omega
              · have := (ge_own hMb.kl b (by simpa using hb)).1; omega
            have hltm := hMb.lt
            have hfxb := set5_all hMb.bx (by simp [noB]) (.int .i64 0) (.int .i64 0) (.slice none 0 0) (.int .i64 0) (.slice none 0 0)
            obtain ⟨z0, z1, z2, z3, z4, zf, _⟩ := cells5 hMb.bx
            have zf0 := zf 0
            have zf1 := zf 1
            have zf2 := zf 2
            have zf3 := zf 3
            have zf4 := zf 4
            have hrxk : ∀ b ∈ [rx], b ∈ ([] : List Nat) ∨ w.heap.size ≤ b := fun b hb => .inr (by rw [List.mem_singleton] at hb; have := hrx.out; omega)
            replace hKN := Lib.hid hKN
            replace hown := Lib.hid hown
            replace hMb := Lib.hid hMb
            replace hkwb := Lib.hid hkwb
            replace hBv := Lib.hid hBv
            replace hfxb := Lib.hid hfxb
            replace hrxk := Lib.hid hrxk
            clear cf zf
            by_cases hbk : E2 = 0 ∧ OK = false
            · obtain ⟨hE2, hOKf⟩ := hbk
              subst hE2
              subst hOKf
              rw [if_pos ⟨rfl, rfl⟩] at heq2
              have hde : refP l = .bad 11 := by rw [hdP2.out, heq2]; rfl
              replace hde := Lib.hid hde
              replace heq2 := Lib.hid heq2
              go_wp2
              obtain ⟨g1', g2', g3'⟩ := hfxb.out
              refine bodyPost_ret (results_end2 rfl _ _ _ _ _ _ _ _ _ _ rfl g1') rfl ?_
              rw [hde.out]
              exact ⟨_, _, rfl, SLs.nil _, SE.nil _, hkwb.out.fresh g2' hrxk.out⟩
            · rw [if_neg hbk] at heq2
              replace heq2 := Lib.hid heq2
              have hcond : (E2 = 0 ∧ OK = true) ∨ ((E2 == 0) = false ∧ True) := by
                by_cases h2 : E2 = 0
                · exact .inl ⟨h2, by cases OK with | true => rfl | false => exact absurd ⟨h2, rfl⟩ hbk⟩
                · exact .inr ⟨by simp [h2], trivial⟩
              replace hbk := Lib.hid hbk
              rcases hcond with ⟨rfl, rfl⟩ | ⟨hE2b, _⟩
              all_goals
                go_wp2_with (
                  at_builtin
                  refine wpl_pushL wb (rx + 2) (.slice ak KN ck) _ ks m rfl _ _ rfl rfl rfl hMb.out.kl hBv.out.slB (by rw [hKN.out]; omega) (by omega) ?_
                  intro v2 w2 hL2 hG20 hkb2
                  have hG2 := hG20.alloc_left
                  have hfx2 := hMb.out.pushK (Keeps.refl [] wb) hG2 hkb2 hL2
                  have c22 : w2.cell? ⟨cx, 2, none⟩ = some (.slice ak KN ck) := (World.cell?_of_block (w := wb) (a := ⟨cx, 2, none⟩) (hG2.grown.block cx hcxl (fun e => hMb.out.ck e.symm))).trans c2k
                  have f22 : w2.frozen? ⟨cx, 2, none⟩ = false := (World.frozen?_of_block (w := wb) (a := ⟨cx, 2, none⟩) (hG2.grown.block cx hcxl (fun e => hMb.out.ck e.symm))).trans f2k
                  obtain ⟨a2, cp2, rfl⟩ : ∃ a c, v2 = .slice a (KN + 1) c := by
                    have := hL2.form
                    simpa [hKN.out] using this
                  replace hfx2 := Lib.hid hfx2
                  clear hL2 hG20 hG2 hkb2
                  simp (config := { maxSteps := 4000000 }) only [Act.put, List.setIfInBounds_toArray, List.set_cons_succ, List.set_cons_zero])
                go_roundw
                case rel => exact ⟨k2 + 1, _, ks ++ [m], _, by simp, by omega, hfx2.out.1, heq2.out, by simp [hKN.out]; omega, hkwb.out.fresh hfx2.out.2 (fun b hb => .inr (hown.out b hb))⟩
                case measure => simp [intOf]; omega
          · have hex2 : Y = some (ks, (ls2, Es2)) := by
              rw [heq2]
              by_cases hk3 : k2 < A - Bn
              · rw [show A - Bn - k2 = (A - Bn - (k2 + 1)) + 1 by omega, rdK_succ, if_pos (fun h => hgo2 ⟨hk3, h⟩)]
              · rw [show A - Bn - k2 = 0 by omega]; rfl
            have hexit2 : (decide (k2 < A - Bn) = false ∧ True) ∨ (decide (k2 < A - Bn) = true ∧ (Es2 == 0) = false) := by
              by_cases hk3 : k2 < A - Bn
              · exact .inr ⟨by simp; omega, by simp; exact fun h => hgo2 ⟨hk3, h⟩⟩
              · exact .inl ⟨by simp; omega, trivial⟩
            have hrxk : ∀ b ∈ [rx], b ∈ ([] : List Nat) ∨ w.heap.size ≤ b := fun b hb => .inr (by rw [List.mem_singleton] at hb; have := hrx.out; omega)
            have hdP3 : refP l = if doneE ls2 Es2 ≠ 0 then .bad (doneE ls2 Es2) else ⟨0, A, Bn, Cn, es, ks⟩ := by rw [hdP2.out, hex2]; rfl
            replace hM2 := Lib.hid hM2
            replace hkw2 := Lib.hid hkw2
            replace heq2 := Lib.hid heq2
            replace hex2 := Lib.hid hex2
            replace hgo2 := Lib.hid hgo2
            replace hrxk := Lib.hid hrxk
            obtain ⟨G, hG⟩ : ∃ G, doneE ls2 Es2 = G := ⟨_, rfl⟩
            rw [hG] at hdP3
            replace hdP3 := Lib.hid hdP3
            rcases hexit2 with ⟨g9, _⟩ | ⟨g9, g10⟩
            all_goals
              go_wp2_with fail
              refine (doneRS_c wr (rx + 1) _ hM2.out.rd).mono ?_
              rintro e _ ⟨rfl, rfl⟩
              simp only [hG]
              obtain ⟨z0, z1, z2, z3, z4, zf, _⟩ := cells5 hM2.out.bx
              obtain ⟨b0, b1, b2, b3, b4, _, _⟩ := cells5 hM2.out.cbx
              have zf0 := zf 0
              have zf1 := zf 1
              have zf2 := zf 2
              have zf3 := zf 3
              have zf4 := zf 4
              clear zf
              by_cases hG0 : G = 0
              · have hde : refP l = ⟨0, A, Bn, Cn, es, ks⟩ := by rw [hdP3.out, if_neg (by simp [hG0])]
                have hfxb := set5_all hM2.out.bx (by simp [noB]) (.int .i64 A) (.int .i64 Bn) vk (.int .i64 Cn) ve
                obtain ⟨ak, ck, hvk⟩ := hM2.out.kl.form
                obtain ⟨ae, ce, hve⟩ := hM2.out.oe.se.form
                have hSK : ∀ w', Keeps [rx] wr w' → KB wr w' → SLs w' vk ks ∧ SE w' ve es := fun w' h1 h2 =>
                  ⟨(hM2.out.kl.keep h1 (fun b hb e => by rw [List.mem_singleton] at hb; subst hb; have := (ge_own hM2.out.kl _ e).1; omega) h2).sls,
                   (hM2.out.oe.keep h1 (fun b hb e => by rw [List.mem_singleton] at hb; subst hb; have := (hM2.out.oe.ge _ e).1; omega) h2).se⟩
                replace hfxb := Lib.hid hfxb
                replace hde := Lib.hid hde
                replace hSK := Lib.hid hSK
                subst hG0
                rw [hvk] at b2
                rw [hve] at b4
                go_wp2
                rw [← hvk, ← hve]
                obtain ⟨g1', g2', g3'⟩ := hfxb.out
                refine bodyPost_ret (results_end2 rfl _ _ _ _ _ _ _ _ _ _ rfl g1') rfl ?_
                rw [hde.out]
                exact ⟨_, _, rfl, (hSK.out _ g2' g3').1, (hSK.out _ g2' g3').2, hkw2.out.fresh g2' hrxk.out⟩
              · have hde : refP l = .bad G := by rw [hdP3.out, if_pos hG0]
                have hGb : (G == 0) = false := by simp [hG0]
                have hfxb := set5_all hM2.out.bx (by simp [noB]) (.int .i64 0) (.int .i64 0) (.slice none 0 0) (.int .i64 0) (.slice none 0 0)
                replace hfxb := Lib.hid hfxb
                replace hde := Lib.hid hde
                replace hG0 := Lib.hid hG0
                go_wp2
                obtain ⟨g1', g2', g3'⟩ := hfxb.out
                refine bodyPost_ret (results_end2 rfl _ _ _ _ _ _ _ _ _ _ rfl g1') rfl ?_
                rw [hde.out]
                exact ⟨_, _, rfl, SLs.nil _, SE.nil _, hkw2.out.fresh g2' hrxk.out⟩
end Go.Proofs.Ytilmcdieihmiaaa

namespace Go.Proofs.Ytilmcdieihmiaaa
open Go.RowKit

theorem decodeR_c (w : World) (v0 : Value) (l : List UInt8) (h : SlB w v0 l) : Calls Try.prog 36 #[v0] w (RefPost w (decP l)) := by
  rw [dec_ref]
  by_cases hcase : DecOk l
  · exact decodeR_good w v0 l h hcase
  · exact decodeR_bad w v0 l h hcase
/-- The list of early payloads and the map. -/
theorem eF_mem : ∀ (es : List NB), es.Pairwise (fun x y => x.1 < y.1) → ∀ s l, eF es s = some l ↔ (s, l) ∈ es
  | [], _, s, l => by simp [eF]
  | (t, m) :: r, h, s, l => by
    obtain ⟨h1, h2⟩ := List.pairwise_cons.1 h
    rw [eF]
    by_cases e : s = t
    · subst e
      rw [if_pos rfl]
      constructor
      · intro h; cases h; simp
      · intro h
        rcases List.mem_cons.1 h with h | h
        · cases h; rfl
        · exact absurd (h1 _ h) (by simp)
    · rw [if_neg e, eF_mem r h2 s l]
      constructor
      · intro h; exact List.mem_cons_of_mem _ h
      · intro h
        rcases List.mem_cons.1 h with h | h
        · cases h; exact absurd rfl e
        · exact h
theorem agr_dec {a b c : Nat} {ks : List Bytes} {es : List NB} (h : DOk ⟨a, b, ks, c, es⟩) : Agr ⟨a, b, c, ks, eF es⟩ ⟨a, b, ks, c, es⟩ :=
  ⟨rfl, rfl, rfl, rfl, eF_mem es h.sorted, h.sorted, fun x hx => by have := (h.ek x hx).1; simp only at this ⊢; omega⟩
set_option maxRecDepth 100000 in
set_option maxHeartbeats 4000000 in
theorem chDec_c (w : World) (v0 : Value) (l : List UInt8) (h : SlB w v0 l) :
    Calls Try.prog 9 #[v0] w fun e w' => e = .returned (.bool true) ∧ Keeps [] w w' := by
  obtain ⟨a0, c0, rfl⟩ := h.form
  obtain ⟨L, hL⟩ : ∃ L, l.length = L := ⟨_, rfl⟩
  rw [hL] at h ⊢
  replace hL := Lib.hid hL
  replace h := Lib.hid h
  go_enter Try.func9, Try.ntmps9
  go_wp2_with fail
  refine (awake_c _).mono ?_
  rintro e w1 ⟨rfl, hk1⟩
  by_cases hbig : L ≤ 6000
  · have hbig' : decide ((6000 : Int) < (L : Int)) = false := by simp; omega
    replace hk1 := Lib.hid hk1
    go_wp2_with fail
    refine (decode_c w1 _ l (h.out.keeps hk1.out) (by rw [hL.out]; omega)).mono ?_
    rintro e w2 hP
    obtain ⟨d, hd⟩ : ∃ d, decP l = d := ⟨_, rfl⟩
    rw [hd] at hP
    have hrt := fun hz => decP_enc (l := l) hz
    rw [hd] at hrt
    have hRf := fun w v h => decodeR_c w v l h
    rw [hd] at hRf
    replace hd := Lib.hid hd
    replace hrt := Lib.hid hrt
    replace hRf := Lib.hid hRf
    rcases hP with ⟨hz, bc, bm, n, vk, rfl, hC, hn, hbc, hbm, hne, hvk, hk2⟩ | ⟨hz, rfl, hk2⟩
    · have hk02 := hk1.out.trans hk2
      obtain ⟨hok, henc⟩ := hrt.out hz
      have hag := agr_dec hok
      obtain ⟨derr, da, db, dc, des, dks⟩ := d
      simp only at hz hC hok henc hag
      subst hz
      replace hC := Lib.hid hC
      replace hok := Lib.hid hok
      replace henc := Lib.hid henc
      replace hag := Lib.hid hag
      replace hk02 := Lib.hid hk02
      clear hk2 hrt
      go_wp2_with fail
      refine (hRf.out w2 _ (h.out.keeps hk02.out)).mono ?_
      rintro e w3 ⟨vke, vee, rfl, hK3, hE3, hk3⟩
      simp only at hK3 hE3 ⊢
      obtain ⟨ak, ck, rfl, _⟩ := hK3.form
      obtain ⟨ae, ce, rfl⟩ := hE3.form
      obtain ⟨KN, hKN⟩ : ∃ KN, dks.length = KN := ⟨_, rfl⟩
      obtain ⟨EN, hEN⟩ : ∃ EN, des.length = EN := ⟨_, rfl⟩
      rw [hKN] at hK3 ⊢
      rw [hEN] at hE3 ⊢
      replace hKN := Lib.hid hKN
      replace hEN := Lib.hid hEN
      replace hK3 := Lib.hid hK3
      replace hE3 := Lib.hid hE3
      replace hk3 := Lib.hid hk3
      go_wp2_with fail
      have hkA : Keeps [] w3 (w3.alloc (.cells #[.int .i64 da, .int .i64 db, .slice ak KN ck, .int .i64 dc, .slice ae EN ce] tyEnd)) := (Keeps.refl _ _).alloc _
      generalize (w3.alloc (.cells #[.int .i64 da, .int .i64 db, .slice ak KN ck, .int .i64 dc, .slice ae EN ce] tyEnd)) = W at *
      have hkW := hk3.out.trans hkA
      have o1 := hok.out.s
      have o2 := hok.out.aq
      have o3 := hok.out.k
      have o4 := hok.out.r
      simp only at o1 o2 o3 o4
      rw [hKN.out] at o3
      refine (sameS_c W _ bc bm n vk _ _ ⟨da, db, dc, dks, eF des⟩ (hC.out.keeps hkW) (hK3.out.keeps hkA) ⟨ae, EN, ce, rfl⟩ (by simp only; omega) (by simp only; rw [hKN.out]; omega) (by simp only; omega) (fun x hx => by have := hok.out.kd x hx; omega)).mono ?_
      rintro e w4 ⟨rfl, hk4⟩
      have hkW4 := hkW.trans hk4
      replace hkW4 := Lib.hid hkW4
      clear o1 o2 o3 o4 hkW hk4
      go_wp2_with fail
      refine (encodeS_c w4 _ bc bm n vk _ _ (hC.out.keeps hkW4.out) hag.out hok.out.enc).mono ?_
      rintro e w5 ⟨v5, rfl, hB5, hk5⟩
      have hS5 := hB5.slB
      rw [henc.out] at hS5
      obtain ⟨a5, c5, rfl⟩ := hS5.form
      obtain ⟨L5, hL5⟩ : ∃ L5, l.length = L5 := ⟨_, rfl⟩
      rw [hL5] at hS5 ⊢
      replace hL5 := Lib.hid hL5
      replace hS5 := Lib.hid hS5
      replace hk5 := Lib.hid hk5
      clear hB5
      go_wp2_with fail
      refine (same_c w5 _ _ l l hS5.out (h.out.keeps (hk02.out.trans (hkW4.out.trans hk5.out)))).mono ?_
      rintro e _ ⟨rfl, rfl⟩
      rw [show decide (l = l) = true from by simp]
      go_wp2
      go_ret
      exact ⟨rfl, hk02.out.trans (hkW4.out.trans hk5.out)⟩
    · have hk02 := hk1.out.trans hk2
      replace hk02 := Lib.hid hk02
      clear hk2 hrt
      obtain ⟨derr, da, db, dc, des, dks⟩ := d
      simp only at hz ⊢
      have hz1 : (derr != 0) = true := by simpa using hz
      have hz2 : (derr == 0) = false := by simpa using hz
      replace hz := Lib.hid hz
      go_wp2_with fail
      refine (hRf.out w2 _ (h.out.keeps hk02.out)).mono ?_
      rintro e w3 ⟨vke, vee, rfl, hK3, hE3, hk3⟩
      simp only at hK3 hE3 ⊢
      obtain ⟨ak, ck, rfl, _⟩ := hK3.form
      obtain ⟨ae, ce, rfl⟩ := hE3.form
      obtain ⟨KN, hKN⟩ : ∃ KN, dks.length = KN := ⟨_, rfl⟩
      obtain ⟨EN, hEN⟩ : ∃ EN, des.length = EN := ⟨_, rfl⟩
      rw [hKN] at hK3 ⊢
      rw [hEN] at hE3 ⊢
      replace hKN := Lib.hid hKN
      replace hEN := Lib.hid hEN
      replace hK3 := Lib.hid hK3
      replace hE3 := Lib.hid hE3
      replace hk3 := Lib.hid hk3
      go_wp2
      go_ret
      exact ⟨rfl, (hk02.out.trans hk3.out).alloc _⟩
  · have hbig' : (6000 : Int) < (L : Int) := by omega
    go_wp2
    go_ret
    exact ⟨rfl, hk1⟩
end Go.Proofs.Ytilmcdieihmiaaa

namespace Go.Proofs.Ytilmcdieihmiaaa
open Go.RowKit

def slen : Value → Nat
  | .slice _ n _ => n
  | _ => 0
set_option maxRecDepth 100000 in
set_option maxHeartbeats 2000000 in
theorem refS_c (w : World) (v0 : Value) (l m : List UInt8) (h : SlB w v0 l) (hm : m.length ≤ 4096) (hl : l.length ≤ 140737488340000) :
    Calls Try.prog 78 #[v0, .string (str m)] w fun e w' => ∃ v', e = .returned v' ∧ Buf w' w.heap.size v' (l ++ encS m) ∧ Keeps [] w w' := by
  obtain ⟨s, hs⟩ : ∃ s, str m = s := ⟨_, rfl⟩
  have hsz : s.size = m.length := by rw [← hs]; simp [str, ByteArray.size]
  have hget : ∀ k (hk : k < s.size), m.take (k + 1) = m.take k ++ [s[k]] := fun k hk => by
    subst hs
    rw [List.take_add_one, List.getElem?_eq_getElem (by omega)]
    rfl
  rw [hs]
  obtain ⟨M, hM⟩ : ∃ M, s.size = M := ⟨_, rfl⟩
  have hML : m.length = M := by omega
  rw [hML] at hm
  have hu : encS m = encU M ++ m := by unfold encS; rw [hML]
  rw [hu]
  replace hs := Lib.hid hs
  replace hget := Lib.hid hget
  replace hML := Lib.hid hML
  replace hu := Lib.hid hu
  replace h := Lib.hid h
  clear hsz
  go_enter Try.func78, Try.ntmps78
  go_wp2_with fail
  refine (refU_c w v0 l M h.out (by omega) (by omega)).mono ?_
  rintro e w1 ⟨v1, rfl, hB1, hk1⟩
  have hUl := encU_len (n := M) (by omega)
  replace hB1 := Lib.hid hB1
  replace hk1 := Lib.hid hk1
  go_wp2
  go_loopw [5, 6] (fun bv iv wr => ∃ k : Nat, iv = .int .i64 k ∧ k ≤ M ∧ Buf wr w.heap.size bv (l ++ encU M ++ m.take k) ∧ Keeps [] w wr) (fun _ iv _ => M - (intOf iv).toNat)
  case atStart => exact ⟨0, rfl, by omega, by simpa using hB1.out, hk1.out⟩
  case round =>
    obtain ⟨k, rfl, hk, hB, hkr⟩ := hrel
    by_cases hlt : k < M
    · have hks : k < s.size := by rw [hM]; exact hlt
      have hsn := hget.out k hks
      have hDl : (l ++ encU M ++ m.take k).length ≤ l.length + 9 + 4096 := by simp; omega
      obtain ⟨D, hD⟩ : ∃ D, l ++ encU M ++ m.take k = D := ⟨_, rfl⟩
      have hfin : l ++ encU M ++ m.take (k + 1) = D ++ [s[k]] := by rw [hsn, ← hD]; simp
      rw [hD] at hB hDl
      obtain ⟨ab, cb, rfl⟩ := hB.form
      have hwsz := hkr.size
      replace hfin := Lib.hid hfin
      replace hB := Lib.hid hB
      replace hkr := Lib.hid hkr
      replace hD := Lib.hid hD
      clear hsn
      go_wp2_with (at_builtin; (refine wpl_pushB _ w.heap.size (.slice ab D.length cb) D _ rfl (.tmp 18) (.tmp 22) rfl rfl rfl hB.out s[k] (by rfl) (by omega) (by omega) ?_; intro v3 w3 hB3 hG3; have hkk3 := Lib.hid (hG3.keeps hkr.out (fun b hb => ownBlock_ge hB.out b hb)); have hB3' := Lib.hid hB3; clear hB3 hG3))
      go_roundw
      case rel => exact ⟨k + 1, rfl, by omega, by rw [hfin.out]; exact hB3'.out, hkk3.out⟩
      case measure => simp [intOf]; omega
    · have hkM := Lib.hid (show k = M by omega)
      have hall : m.take k = m := List.take_of_length_le (by rw [hML.out]; omega)
      rw [hall, List.append_assoc] at hB
      replace hall := Lib.hid hall
      replace hB := Lib.hid hB
      replace hkr := Lib.hid hkr
      go_wp2
      go_ret
      exact ⟨_, rfl, hB.out, hkr.out⟩
set_option maxRecDepth 100000 in
set_option maxHeartbeats 4000000 in
theorem payR_c (w : World) (v0 vm : Value) (l m : List UInt8) (h : SlB w v0 l) (hm : SlB w vm m) (hml : m.length ≤ 5000000) (hl : l.length ≤ 140737478340000) :
    Calls Try.prog 60 #[v0, vm] w fun e w' => ∃ v', e = .returned v' ∧ SlB w' v' (l ++ encP m) ∧ Keeps [] w w' := by
  obtain ⟨am, cm, rfl⟩ := hm.form
  obtain ⟨L, hL⟩ : ∃ L, m.length = L := ⟨_, rfl⟩
  obtain ⟨N, hN⟩ : ∃ N, pcs L = N := ⟨_, rfl⟩
  have hN2 : N = (L + 4095) / 4096 := by rw [← hN]; rfl
  have hdiv : ((L : Int) + 4096 - 1) / 4096 = N := by omega
  have hfin : encP m = encU N ++ encPs m N := by unfold encP; rw [hL, hN]
  rw [hfin]
  rw [hL] at hm hml ⊢
  replace hL := Lib.hid hL
  replace hN := Lib.hid hN
  have hN3 := Lib.hid hN2
  clear hN2
  replace hfin := Lib.hid hfin
  replace h := Lib.hid h
  replace hm := Lib.hid hm
  have hNb : N ≤ 1300 := by rw [hN3.out]; omega
  have hwN : IntKind.u64.wrap (N : Int) = N := by rw [IntKind.wrap_u64]; omega
  go_enter Try.func60, Try.ntmps60
  go_wp2_with fail
  refine (refU_c w v0 l N h.out (by omega) (by omega)).mono ?_
  rintro e w1 ⟨v1, rfl, hB1, hk1⟩
  have hUl := encU_len (n := N) (by omega)
  have hS1 := hB1.slB
  have hm1 := hm.out.keeps hk1
  replace hS1 := Lib.hid hS1
  replace hm1 := Lib.hid hm1
  replace hk1 := Lib.hid hk1
  replace hdiv := Lib.hid hdiv
  clear hB1
  go_wp2
  go_loopw [0, 1, 5] (fun bv mv _ wr => ∃ (k n c : Nat) (a : Option Addr), mv = .slice a n c ∧ n = L - k * 4096 ∧ k ≤ N ∧ SlB wr (.slice a n c) (m.drop (k * 4096)) ∧ SlB wr bv (l ++ encU N ++ encPs m k) ∧ Keeps [] w wr) (fun _ mv _ _ => slen mv)
  case atStart => exact ⟨0, L, cm, am, rfl, by omega, by omega, by simpa using hm1.out, by simpa [encPs] using hS1.out, hk1.out⟩
  case round =>
    obtain ⟨k, n, c, a, rfl, hn, hk, hM, hB, hkr⟩ := hrel
    have hdl : (m.drop (k * 4096)).length = n := by rw [List.length_drop, hL.out, hn]
    have hNL := hN3.out
    by_cases hpos : 0 < n
    · obtain ⟨E, hE⟩ : ∃ E, min n 4096 = E := ⟨_, rfl⟩
      have hEn : E ≤ n ∧ E ≤ 4096 := by omega
      obtain ⟨hcp, hp1, hp2⟩ := slice_parts hM hdl hEn.1
      obtain ⟨vt, hvt⟩ : ∃ vt : Option Addr, (if c = E then a else Option.map (fun x => x.add E) a) = vt := ⟨_, rfl⟩
      rw [hvt] at hp2
      have hpc : (m.drop (k * 4096)).take E = piece m k := by
        unfold piece
        rw [← hE]
        rcases Nat.le_total n 4096 with h1 | h1
        · rw [Nat.min_eq_left h1, List.take_of_length_le (by omega), List.take_of_length_le (by omega)]
        · rw [Nat.min_eq_right h1]
      rw [hpc] at hp1
      have hpr : (m.drop (k * 4096)).drop E = m.drop ((k + 1) * 4096) := by
        rw [← hE]
        rcases Nat.le_total n 4096 with h1 | h1
        · rw [Nat.min_eq_left h1, List.drop_eq_nil_of_le (by omega), List.drop_eq_nil_of_le (by rw [hL.out]; omega)]
        · rw [Nat.min_eq_right h1, List.drop_drop]; congr 1; omega
      rw [hpr] at hp2
      have hst := run_str hp1
      obtain ⟨s, hs1⟩ : ∃ s, str (piece m k) = s := ⟨_, rfl⟩
      rw [hs1] at hst
      have hmin : min (n : Int) 4096 = (E : Int) := by omega
      replace hdl := Lib.hid hdl
      replace hE := Lib.hid hE
      replace hn := Lib.hid hn
      replace hvt := Lib.hid hvt
      replace hs1 := Lib.hid hs1
      replace hp1 := Lib.hid hp1
      replace hp2 := Lib.hid hp2
      replace hkr := Lib.hid hkr
      replace hB := Lib.hid hB
      clear hpc hpr hNL hM
      have hDl : (l ++ encU N ++ encPs m k).length ≤ l.length + 9 + k * 5000 := by have := encPs_len m k; simp; omega
      have hpl : (piece m k).length ≤ 4096 := by rw [piece_len]; unfold pcl; omega
      have hfin2 : l ++ encU N ++ encPs m (k + 1) = (l ++ encU N ++ encPs m k) ++ encS (piece m k) := by simp [encPs]
      obtain ⟨D, hD⟩ : ∃ D, l ++ encU N ++ encPs m k = D := ⟨_, rfl⟩
      rw [hD] at hB hDl hfin2
      replace hD := Lib.hid hD
      replace hfin2 := Lib.hid hfin2
      go_wp2_with fail
      refine (show Calls _ _ _ _ _ from by rw [← hs1.out]; exact refS_c wr u0 D (piece m k) hB.out hpl (by omega)).mono ?_
      rintro e w3 ⟨v3, rfl, hB3, hk3⟩
      have hS3 := hB3.slB
      rw [← hfin2.out] at hS3
      have hk03 := hkr.out.trans hk3
      have hp3 := hp2.out.keeps hk3
      replace hS3 := Lib.hid hS3
      replace hk03 := Lib.hid hk03
      replace hp3 := Lib.hid hp3
      clear hB3 hk3 hst
      go_wp2
      rw [hvt.out]
      go_roundw
      case rel => exact ⟨k + 1, n - E, c - E, vt, rfl, by have := hE.out; have := hn.out; have := hN3.out; omega, by have := hE.out; have := hn.out; have := hN3.out; omega, hp3.out, hS3.out, hk03.out⟩
      case measure => simp [slen]; have := hE.out; omega
    · have hkN := Lib.hid (show k = N by omega)
      rw [hkN.out] at hB
      rw [List.append_assoc] at hB
      replace hB := Lib.hid hB
      replace hkr := Lib.hid hkr
      replace hn := Lib.hid hn
      replace hdl := Lib.hid hdl
      replace hM := Lib.hid hM
      have hn0 : n = 0 := by omega
      clear hNL
      go_wp2
      go_ret
      exact ⟨_, rfl, hB.out, hkr.out⟩
end Go.Proofs.Ytilmcdieihmiaaa

namespace Go.Proofs.Ytilmcdieihmiaaa
open Go.RowKit

theorem SLs.elem {w : World} {v : Value} {ls : List Bytes} (h : SLs w v ls) {k : Nat} (hk : k < ls.length) : ∃ g o c ad cp, v = .slice (some ⟨g, o, none⟩) ls.length c ∧ ls.length ≤ c ∧ c ≤ maxLen ∧ w.cell? ⟨g, o + k, none⟩ = some (.slice ad ls[k].length cp) ∧ SlB w (.slice ad ls[k].length cp) ls[k] := by
  rcases h.cases with ⟨rfl, _⟩ | ⟨g, o, c, rfl, h1, h2, _, h3⟩
  · simp at hk
  · obtain ⟨x, h4, h5⟩ := h3 k hk
    obtain ⟨ad, cp, rfl⟩ := h5.form
    exact ⟨g, o, c, ad, cp, rfl, h1, h2, h4, h5⟩
set_option maxRecDepth 100000 in
set_option maxHeartbeats 10000000 in
theorem encodeER_c (w : World) (vk ve : Value) (E : REnd) (h : RE w vk ve E) (hok : EncOk E) :
    Calls Try.prog 35 #[.agg #[.int .i64 E.sent, .int .i64 E.acked, vk, .int .i64 E.received, ve]] w fun e w' => ∃ v', e = .returned v' ∧ SlB w' v' (encE E) ∧ Keeps [] w w' := by
  obtain ⟨ak, ck, rfl, hkm⟩ := h.kept.form
  obtain ⟨ae, ce, rfl⟩ := h.early.form
  have hb0 := heap_alloc_new w (.cells #[.int .i64 E.sent, .int .i64 E.acked, .slice ak E.kept.length ck, .int .i64 E.received, .slice ae E.early.length ce] tyEnd)
  have hkA : Keeps [] w (w.alloc (.cells #[.int .i64 E.sent, .int .i64 E.acked, .slice ak E.kept.length ck, .int .i64 E.received, .slice ae E.early.length ce] tyEnd)) := (Keeps.refl [] w).alloc _
  replace h := h.keeps hkA
  obtain ⟨S, hS⟩ : ∃ S, E.sent = S := ⟨_, rfl⟩
  obtain ⟨A, hA⟩ : ∃ A, E.acked = A := ⟨_, rfl⟩
  obtain ⟨R, hR⟩ : ∃ R, E.received = R := ⟨_, rfl⟩
  obtain ⟨M, hM⟩ : ∃ M, E.early.length = M := ⟨_, rfl⟩
  obtain ⟨K, hK⟩ : ∃ K, E.kept.length = K := ⟨_, rfl⟩
  have hfin : encE E = encU S ++ encU A ++ encU R ++ encU M ++ encEs E.early ++ encKs E.kept := by unfold encE; rw [hS, hA, hR, hM]; simp [encHd]
  have o1 := hok.s
  have o2 := hok.a
  have o3 := hok.r
  have o4 := hok.n
  have o5 := hok.k
  rw [hS] at o1
  rw [hA] at o2
  rw [hR] at o3
  rw [hM] at o4
  rw [hK] at o5
  rw [hfin]
  have hkk := h.kept
  have hke := h.early
  rw [hS, hA, hR, hM, hK] at hb0 hkA hkk hke ⊢
  obtain ⟨p0, p1, p2, p3, p4, pf, plt⟩ := cells5 hb0
  replace hok := Lib.hid hok
  replace hfin := Lib.hid hfin
  replace hS := Lib.hid hS
  replace hA := Lib.hid hA
  replace hR := Lib.hid hR
  replace hM := Lib.hid hM
  replace hK := Lib.hid hK
  replace hkA := Lib.hid hkA
  replace hb0 := Lib.hid hb0
  clear h
  obtain ⟨X, hX⟩ : ∃ X, w.heap.size = X := ⟨_, rfl⟩
  go_enter Try.func35, Try.ntmps35
  go_wp2_with fail
  generalize (w.alloc (.cells #[.int .i64 S, .int .i64 A, .slice ak K ck, .int .i64 R, .slice ae M ce] tyEnd)) = W at *
  rw [hX] at p0 p1 p2 p3 p4 pf plt
  replace hX := Lib.hid hX
  refine (refU_c W (.slice none 0 0) [] S (SlB.nil _) (by omega) (by simp)).mono ?_
  rintro e w1 ⟨v1, rfl, hB1, hk1⟩
  rw [List.nil_append] at hB1
  have hl1 := encU_len (n := S) (by omega)
  have hS1 := hB1.slB
  obtain ⟨D1, hD1⟩ : ∃ D, encU S = D := ⟨_, rfl⟩
  rw [hD1] at hS1 hl1
  have q1 := hk1.val p1
  have q2 := hk1.val p2
  have q3 := hk1.val p3
  have q4 := hk1.val p4
  replace hD1 := Lib.hid hD1
  replace hS1 := Lib.hid hS1
  replace hk1 := Lib.hid hk1
  clear hB1 p1 p2 p3 p4
  go_wp2_with fail
  refine (refU_c w1 v1 D1 A hS1.out (by omega) (by omega)).mono ?_
  rintro e w2 ⟨v2, rfl, hB2, hk2⟩
  have hl2 := encU_len (n := A) (by omega)
  have hS2 := hB2.slB
  obtain ⟨D2, hD2⟩ : ∃ D, D1 ++ encU A = D := ⟨_, rfl⟩
  have hl2' : D2.length ≤ 18 := by rw [← hD2, List.length_append]; omega
  rw [hD2] at hS2
  have r2 := hk2.val q2
  have r3 := hk2.val q3
  have r4 := hk2.val q4
  replace hD2 := Lib.hid hD2
  replace hS2 := Lib.hid hS2
  replace hk2 := Lib.hid (hk1.out.trans hk2)
  clear hB2 q1 q2 q3 q4 hl2 hl1 hS1 hk1
  go_wp2_with fail
  refine (refU_c w2 v2 D2 R hS2.out (by omega) (by omega)).mono ?_
  rintro e w3 ⟨v3, rfl, hB3, hk3⟩
  have hl3 := encU_len (n := R) (by omega)
  have hS3 := hB3.slB
  obtain ⟨D3, hD3⟩ : ∃ D, D2 ++ encU R = D := ⟨_, rfl⟩
  have hl3' : D3.length ≤ 27 := by rw [← hD3, List.length_append]; omega
  rw [hD3] at hS3
  have s2 := hk3.val r2
  have s4 := hk3.val r4
  replace hD3 := Lib.hid hD3
  replace hS3 := Lib.hid hS3
  replace hk3 := Lib.hid (hk2.out.trans hk3)
  clear hB3 r2 r3 r4 hl3 hl2' hS2 hk2
  go_wp2_with fail
  refine (refU_c w3 v3 D3 M hS3.out (by omega) (by omega)).mono ?_
  rintro e w4 ⟨v4, rfl, hB4, hk4⟩
  have hl4 := encU_len (n := M) (by omega)
  have hS4 := hB4.slB
  obtain ⟨H, hH⟩ : ∃ D, D3 ++ encU M = D := ⟨_, rfl⟩
  have hHl : H.length ≤ 36 := by rw [← hH, List.length_append]; omega
  rw [hH] at hS4
  have t2 := hk4.val s2
  have t4 := hk4.val s4
  replace hk4 := Lib.hid (hk3.out.trans hk4)
  have hkk4 := hkk.keeps hk4.out
  have hke4 := hke.keeps hk4.out
  have hHf : encU S ++ encU A ++ encU R ++ encU M = H := by rw [hD1.out, hD2.out, hD3.out, hH]
  replace hHf := Lib.hid hHf
  replace hS4 := Lib.hid hS4
  replace hkk4 := Lib.hid hkk4
  replace hke4 := Lib.hid hke4
  clear hB4 s2 s4 hl4 hl3' hS3 hk3 hH hkk hke hfin p0
  go_wp2
  go_loopw [3, 4] (fun bv iv wr => ∃ k : Nat, iv = .int .i64 k ∧ k ≤ M ∧ SlB wr bv (H ++ encEs (E.early.take k)) ∧ Keeps [] w4 wr) (fun _ iv _ => M - (intOf iv).toNat)
  case atStart => exact ⟨0, rfl, by omega, by simpa [encEs] using hS4.out, Keeps.refl _ _⟩
  case round =>
    obtain ⟨k, rfl, hk, hB, hkr⟩ := hrel
    have x2 := hkr.val t2
    have x4 := hkr.val t4
    by_cases hlt : k < M
    · have hkl : k < E.early.length := by rw [hM.out]; exact hlt
      obtain ⟨_, _, hv, hcm, hcx, hel⟩ := (hke4.out.keeps hkr).elems
      rw [hM.out] at hv hcm
      cases hv
      obtain ⟨g, o, ad, cp, rfl, e0, e1, hY⟩ := hel k hkl
      have hx1 := hok.out.ek _ (List.getElem_mem hkl)
      have hx2 := hok.out.ed _ (List.getElem_mem hkl)
      have hsn := encEs_snoc hkl
      have hDl : (encEs (E.early.take k)).length ≤ 7000009 * k := by
        have := encEs_len (L := E.early.take k) (fun x hx => ⟨by have := hok.out.ek x (List.mem_of_mem_take hx); omega, hok.out.ed x (List.mem_of_mem_take hx)⟩)
        rw [List.length_take] at this
        exact Nat.le_trans this (Nat.mul_le_mul_left _ (Nat.min_le_left _ _))
      generalize E.early[k] = y at *
      obtain ⟨y1, ym⟩ := y
      simp only at e0 e1 hY hx1 hx2 hsn
      obtain ⟨n1, rfl⟩ : ∃ n : Nat, y1 = n := ⟨y1.toNat, by omega⟩
      rw [Int.toNat_natCast] at hsn
      obtain ⟨YL, hYL⟩ : ∃ YL, ym.length = YL := ⟨_, rfl⟩
      rw [hYL] at hY hx2
      obtain ⟨D, hD⟩ : ∃ D, H ++ encEs (E.early.take k) = D := ⟨_, rfl⟩
      have hDl2 : D.length ≤ 36 + 7000009 * k := by rw [← hD, List.length_append]; omega
      have hfin2 : H ++ encEs (E.early.take (k + 1)) = D ++ encU n1 ++ encP ym := by rw [hsn, ← hD]; simp
      rw [hD] at hB
      have hY0 := hY
      rw [hYL] at e1
      replace hD := Lib.hid hD
      replace hYL := Lib.hid hYL
      replace hB := Lib.hid hB
      replace hkr := Lib.hid hkr
      replace hY0 := Lib.hid hY0
      replace hfin2 := Lib.hid hfin2
      clear hel hsn hY hDl
      go_wp2
      refine Free.wp_region_chain (fun i => i == 8 || i == 15) (fun i => true) (fun _ b => False) (by kernel_rfl) (by kernel_rfl) (by kernel_rfl) ?_
      (repeat (first | (apply Free.cw_pure rfl rfl; (intro w'; go_simp <;> exact rfl); go_frame) | (apply Free.cw_steady rfl rfl rfl; (intro w' hS; have q0 := Free.sx_cell hS x4 (fun _ _ hT => hT); have q1 := Free.sx_cell hS e0 (fun _ _ hT => hT); have q2 := Free.sx_cell hS e1 (fun _ _ hT => hT); go_simp <;> exact rfl); go_frame) | (refine Free.cw_skip rfl ?_; go_frame)))
      refine Free.cw_loud rfl rfl (fun KK hKK => ?_)
      go_wp2_with fail
      refine (refU_c _ _ D n1 (hB.out.keeps (Keeps.refl [] _).drew) (by omega) (by omega)).mono ?_
      rintro e w5 ⟨v5, rfl, hB5, hk5⟩
      refine hKK _ _ rfl (Free.KeepsP.of hk5 (by simp)) ?_
      clear hKK KK
      have hS5 := hB5.slB
      have hk05 := (Keeps.refl [] wr).drew.trans hk5
      obtain ⟨D5, hD5⟩ : ∃ x, D ++ encU n1 = x := ⟨_, rfl⟩
      have hl5 : D5.length ≤ 36 + 7000009 * k + 9 := by have := encU_len (n := n1) (by omega); rw [← hD5]; simp; omega
      rw [hD5] at hS5
      replace hD5 := Lib.hid hD5
      replace hS5 := Lib.hid hS5
      replace hk05 := Lib.hid hk05
      clear hB5 hk5 hB
      (repeat (first | (apply Free.cw_pure rfl rfl; (intro w'; go_simp <;> exact rfl); go_frame) | (apply Free.cw_steady rfl rfl rfl; (intro w' hS; have q0 := Free.sx_cell hS x4 (fun _ _ hT => hT); have q1 := Free.sx_cell hS e0 (fun _ _ hT => hT); have q2 := Free.sx_cell hS e1 (fun _ _ hT => hT); go_simp <;> exact rfl); go_frame) | (refine Free.cw_skip rfl ?_; go_frame)))
      refine Free.cw_loud rfl rfl (fun KK hKK => ?_)
      go_wp2_with fail
      refine (payR_c _ _ _ D5 ym hS5.out (hY0.out.keeps hk05.out) (by rw [hYL.out]; omega) (by omega)).mono ?_
      rintro e w6 ⟨v6, rfl, hS6, hk6⟩
      refine hKK _ _ rfl (Free.KeepsP.of hk6 (by simp)) ?_
      clear hKK KK
      have hk06 := (hkr.out.trans hk05.out).trans hk6
      rw [← hD5.out, ← hfin2.out] at hS6
      replace hS6 := Lib.hid hS6
      replace hk06 := Lib.hid hk06
      clear hk6 hk05 hS5
      (repeat (apply Free.cw_pure rfl rfl; (intro w'; go_simp <;> exact rfl); go_frame))
      refine Free.cw_nil ?_
      go_wp2
      go_roundw
      case rel => exact ⟨k + 1, rfl, by omega, hS6.out, hk06.out⟩
      case measure => simp [intOf]; omega
    · have hkM := Lib.hid (show k = M by omega)
      have hall : E.early.take k = E.early := List.take_of_length_le (by rw [hM.out]; omega)
      rw [hall] at hB
      have hEl : (encEs E.early).length ≤ 7000009 * 1000000 := by
        have := encEs_len (L := E.early) (fun x hx => ⟨by have := hok.out.ek x hx; omega, hok.out.ed x hx⟩)
        rw [hM.out] at this; omega
      have hkk5 := hkk4.out.keeps hkr
      obtain ⟨G, hG⟩ : ∃ G, H ++ encEs E.early = G := ⟨_, rfl⟩
      have hGl : G.length ≤ 36 + 7000009 * 1000000 := by rw [← hG, List.length_append]; omega
      rw [hG] at hB
      have hk05 := hk4.out.trans hkr
      replace hall := Lib.hid hall
      replace hB := Lib.hid hB
      replace hkr := Lib.hid hkr
      replace hG := Lib.hid hG
      replace hkk5 := Lib.hid hkk5
      replace hk05 := Lib.hid hk05
      clear hEl
      obtain ⟨wo, hwo⟩ : ∃ wo : World, wo = wr := ⟨_, rfl⟩
      rw [← hwo] at hB hkr hkk5 hk05 x2 x4 ⊢
      clear hwo wr
      go_wp2
      go_loopw [3, 5] (fun bv iv wr => ∃ k : Nat, iv = .int .i64 k ∧ k ≤ K ∧ SlB wr bv (G ++ encKs (E.kept.take k)) ∧ Keeps [] wo wr) (fun _ iv _ => K - (intOf iv).toNat)
      case atStart => exact ⟨0, rfl, by omega, by simpa [encKs] using hB.out, Keeps.refl _ _⟩
      case round =>
        obtain ⟨j, rfl, hj, hC, hkj⟩ := hrel
        have z2 := hkj.val x2
        by_cases hltj : j < K
        · have hkl : j < E.kept.length := by rw [hK.out]; exact hltj
          obtain ⟨g, o, c', ad, cp, hv, hcm, hcx, y0, hY⟩ := (hkk5.out.keeps hkj).elem hkl
          rw [hK.out] at hv hcm
          cases hv
          have hx2 := hok.out.kd _ (List.getElem_mem hkl)
          have hsn := encKs_snoc hkl
          have hDl : (encKs (E.kept.take j)).length ≤ 7000000 * j := by
            have := encKs_len (L := E.kept.take j) (fun x hx => hok.out.kd x (List.mem_of_mem_take hx))
            rw [List.length_take] at this
            exact Nat.le_trans this (Nat.mul_le_mul_left _ (Nat.min_le_left _ _))
          generalize E.kept[j] = ym at *
          obtain ⟨YL, hYL⟩ : ∃ YL, ym.length = YL := ⟨_, rfl⟩
          rw [hYL] at hY hx2 y0
          obtain ⟨D, hD⟩ : ∃ D, G ++ encKs (E.kept.take j) = D := ⟨_, rfl⟩
          have hDl2 : D.length ≤ 36 + 7000009 * 1000000 + 7000000 * j := by rw [← hD, List.length_append]; omega
          have hfin2 : G ++ encKs (E.kept.take (j + 1)) = D ++ encP ym := by rw [hsn, ← hD]; simp
          rw [hD] at hC
          replace hD := Lib.hid hD
          replace hYL := Lib.hid hYL
          replace hC := Lib.hid hC
          replace hkj := Lib.hid hkj
          replace hY := Lib.hid hY
          replace hfin2 := Lib.hid hfin2
          clear hsn hDl
          go_wp2_with fail
          refine (payR_c _ _ _ D ym hC.out hY.out (by rw [hYL.out]; omega) (by omega)).mono ?_
          rintro e w6 ⟨v6, rfl, hS6, hk6⟩
          have hk06 := hkj.out.trans hk6
          rw [← hfin2.out] at hS6
          replace hS6 := Lib.hid hS6
          replace hk06 := Lib.hid hk06
          clear hk6 hC
          go_wp2
          go_roundw
          case rel => exact ⟨j + 1, rfl, by omega, hS6.out, hk06.out⟩
          case measure => simp [intOf]; omega
        · have hjK := Lib.hid (show j = K by omega)
          have hallj : E.kept.take j = E.kept := List.take_of_length_le (by rw [hK.out]; omega)
          rw [hallj] at hC
          replace hallj := Lib.hid hallj
          replace hC := Lib.hid hC
          replace hkj := Lib.hid hkj
          go_wp2
          go_ret
          exact ⟨_, rfl, by rw [hHf.out, hG.out]; exact hC.out, (hkA.out.trans hk05.out).trans hkj.out⟩
end Go.Proofs.Ytilmcdieihmiaaa

namespace Go.Proofs.Ytilmcdieihmiaaa
open Go.RowKit

structure CI (C : Chan) : Prop where
  nn : C.early ((C.received : Int) + 1) = none
  len : ∀ s l, C.early s = some l → l.length ≤ 6000
theorem CI.new : CI ⟨0, 0, 0, [], fun _ => none⟩ := ⟨rfl, fun _ _ h => by cases h⟩
theorem Dr.sub {C C1 : Chan} {o : List Bytes} (h : Dr C C1 o) : ∀ s l, C1.early s = some l → C.early s = some l := by
  induction h with
  | refl => exact fun _ _ h => h
  | step _ _ ih =>
    intro s l hs
    simp only [Chan.take] at hs
    split at hs
    · cases hs
    · exact ih s l hs
theorem CI.rcv {C C' : Chan} {d : Bytes} {o : List Bytes} {c : Int} (h : CI C) (hr : Rcv C d C' o c) (hd : d.length ≤ 6000) : CI C' := by
  rcases hr with ⟨_, rfl, _⟩ | ⟨t, q, _, _, rfl, _⟩ | ⟨t, q, rest, rfl, hq, _, hc⟩
  · exact h
  · unfold Chan.ackd
    split
    · exact ⟨h.nn, h.len⟩
    · exact h
  · rcases hc with ⟨_, rfl, _⟩ | ⟨_, hg, _⟩
    · exact h
    · rcases hg with ⟨rfl, _⟩ | ⟨_, _, hD, hnn⟩
      · exact h
      · refine ⟨hnn, fun s l hs => ?_⟩
        have h2 := hD.sub s l hs
        simp only [Chan.put] at h2
        split at h2
        · cases h2
          obtain ⟨⟨j, _, rfl⟩, _⟩ := readU_drop hq
          simp at hd ⊢; omega
        · exact h.len s l h2
theorem CI.step {C C' : Chan} {k : Nat} {N : Int} {d : Bytes} (hs : StepR C k N d C') (hd : d.length ≤ 5000) (h : CI C) : CI C' := by
  obtain ⟨h1, h2, h3⟩ := hs
  rcases Nat.lt_or_ge k 2 with a | a
  · rw [h2 a]; exact ⟨h.nn, h.len⟩
  · rcases Nat.lt_or_ge 4 k with b | b
    · rw [h3 b]; exact h
    · obtain ⟨o, c, hr⟩ := h1 a b
      refine h.rcv hr ?_
      have hu := encU_len (n := uOf N) (uOf_lt N)
      unfold dgm dataB ackB
      split
      · simp; omega
      · split
        · simp; omega
        · omega
/-- What a run leaves. -/
def RunPostI (w : World) (N : Nat) (e : Ending) (w' : World) : Prop :=
  ∃ B bc bm n vk vke vee C E, e = .returned (.tuple #[.pointer (some ⟨bc, 0, none⟩), .agg #[.int .i64 E.sent, .int .i64 E.acked, vke, .int .i64 E.received, vee], .bool true]) ∧ BothW w' B bc bm n vk vke vee C E ∧ Joint C E N 5000 ∧ n ≤ N ∧ (∀ b ∈ own3 bc bm vk, w.heap.size ≤ b) ∧ Keeps [] w w' ∧ CI C
set_option maxRecDepth 100000 in
set_option maxHeartbeats 1600000 in
theorem runI_c (w : World) (v0 : Value) (L : List OpV) (h : SOps w v0 L) (hL30 : L.length ≤ 30) (hLd : ∀ x ∈ L, x.d.length ≤ 5000) :
    Calls Try.prog 28 #[v0] w (RunPostI w L.length) := by
  obtain ⟨a, c, rfl, hlc, hcm, _⟩ := Gen.SlR.form h
  obtain ⟨N, hN⟩ : ∃ N, L.length = N := ⟨_, rfl⟩
  have hkA : Keeps [] w (w.alloc zEnd) := (Keeps.refl _ _).alloc _
  have hr0 := heap_alloc_new w zEnd
  have hszA : (w.alloc zEnd).heap.size = w.heap.size + 1 := by simp
  rw [hN] at hlc h hL30 ⊢
  unfold maxLen at hcm
  replace h := Lib.hid (h.keeps hkA)
  replace hN := Lib.hid hN
  replace hLd := Lib.hid hLd
  replace hkA := Lib.hid hkA
  replace hr0 := Lib.hid hr0
  go_enter Try.func28, Try.ntmps28
  go_wp2_with fail
  generalize w.alloc zEnd = W at *
  refine (new_c _).mono ?_
  rintro e w3 ⟨bc, bm, rfl, hbc, hbm, hne, hC, hk3⟩
  go_wp2
  have hI0 : Hid (RunI W (w3.alloc zEnd) bc bm w3.heap.size 0 5000 ⟨0, 0, 0, [], fun _ => none⟩ ⟨0, 0, [], 0, []⟩) := by
    have hkB : Keeps [] w3 (w3.alloc zEnd) := (Keeps.refl _ _).alloc _
    have hlt1 := hC.cells.2.2.2.2.2.2
    have hlt2 := hC.early.lt
    refine ⟨⟨w3.heap.size, 0, .slice none 0 0, .slice none 0 0, .slice none 0 0, ⟨hC.keeps hkB, by simp, by simp [Value.ownBlock], ⟨SLs.nil _, SE.nil _⟩, fun b _ => ⟨by simp [Value.ownBlock], by simp [Value.ownBlock]⟩, fun b hb => by simp [Value.ownBlock] at hb, NE.none _ _ _, NE.none _ _ _⟩, Nat.le_refl _, heap_alloc_new w3 _, fun b hb => ?_⟩, Joint.new 5000, hk3.trans hkB, hk3.size⟩
    simp [own3, Value.ownBlock] at hb
    rcases hb with rfl | rfl <;> omega
  generalize hbx : w3.heap.size = bx at hI0 ⊢
  have hbxw : W.heap.size ≤ bx := hI0.out.fresh
  clear hC hk3 hbx
  go_loopw [7, 8] (fun ok i wr => ∃ (k : Nat) (C : Chan) (E : REnd), ok = .bool true ∧ i = .int .i64 k ∧ k ≤ N ∧ RunI W wr bc bm bx k 5000 C E ∧ Hid (CI C)) (fun _ i _ => N - (intOf i).toNat)
  case atStart => exact ⟨0, _, _, rfl, rfl, by omega, hI0.out, Lib.hid CI.new⟩
  case round =>
    obtain ⟨k, C, E, rfl, rfl, hk, hI, hCI⟩ := hrel
    clear hI0
    by_cases hlt : k < N
    · skip
      obtain ⟨⟨B, n, vk, vke, vee, hW, hn, hbx, hown⟩, hJ, hkw, _⟩ := hI
      have hkL : k < L.length := by rw [hN.out]; exact hlt
      obtain ⟨g, o, c', ad, cd, hv, x0, x1, x2, hd, hok, hg⟩ := h.out.op hkL
      cases hv
      have hdl := hLd.out _ (List.getElem_mem hkL)
      generalize hOP : L[k] = OP at x0 x1 x2 hd hok hdl
      obtain ⟨K0, N0, D0⟩ := OP
      simp only at x0 x1 x2 hd hdl
      replace x0 := hkw.val x0
      replace x1 := hkw.val x1
      replace x2 := hkw.val x2
      replace hd := hd.keeps hkw
      have hgw : g < wr.heap.size := Nat.lt_of_lt_of_le hg hkw.size
      obtain ⟨p0, p1, p2, p3, p4, pf, plt⟩ := cells5 hbx
      obtain ⟨ae, ce, rfl⟩ := hW.re.early.form
      obtain ⟨ak, ck, rfl, _⟩ := hW.re.kept.form
      obtain ⟨s, hse⟩ : ∃ s, E.sent = s := ⟨_, rfl⟩
      obtain ⟨a, hae⟩ : ∃ s, E.acked = s := ⟨_, rfl⟩
      obtain ⟨r, hre⟩ : ∃ s, E.received = s := ⟨_, rfl⟩
      obtain ⟨KN, hK⟩ : ∃ s, E.kept.length = s := ⟨_, rfl⟩
      obtain ⟨EN, hEN⟩ : ∃ s, E.early.length = s := ⟨_, rfl⟩
      obtain ⟨DN, hDN⟩ : ∃ s, D0.length = s := ⟨_, rfl⟩
      have hst := fun (W : World) (hk : Keeps [] wr W) => step_c W B bc bm n k 5000 vk _ _ _ C E K0 N0 D0 (hW.keeps hk) hJ (by omega) hn (by omega) hok.2 (hd.keeps hk) hdl
      rw [hse, hae, hre, hK, hEN, hDN] at hst
      rw [hse, hae, hre, hK, hEN] at hbx
      rw [hse] at p0
      rw [hae] at p1
      rw [hK] at p2
      rw [hre] at p3
      rw [hEN] at p4
      rw [hDN] at x2
      have hol : ∀ b ∈ own3 bc bm vk, b < wr.heap.size := fun b hb => by
        simp only [own3, List.mem_cons, Option.mem_toList] at hb
        rcases hb with rfl | rfl | hb
        · exact hW.ch.cells.2.2.2.2.2.2
        · exact hW.ch.early.lt
        · exact (ge_own hW.ch.kept b hb).2
      replace hol := Lib.hid hol
      replace hst := Lib.hid hst
      have hcs := Lib.hid (fun C' (hs : StepR C K0 N0 D0 C') => CI.step hs hdl hCI.out)
      replace hbx := Lib.hid hbx
      replace hkw := Lib.hid hkw
      replace hown := Lib.hid hown
      clear hse hae hre hK hEN hDN hd hJ hdl hok hOP hW
      go_wp2
      refine Free.wp_region_chain (fun i => i == 6 || i == 10) (fun i => true) (fun j b => j = 6 ∨ j = 10) (by kernel_rfl) (by kernel_rfl) (by kernel_rfl) ?_
      (repeat (first | (apply Free.cw_pure rfl rfl; (intro w'; go_simp <;> exact rfl); go_frame) | (apply Free.cw_steady rfl rfl rfl; (intro w' hS; have q0 := Free.sx_cell hS p0 (fun j hp hT => Or.elim hT (fun h => by obtain rfl := h; exact absurd hp (by decide +kernel)) (fun h => by obtain rfl := h; exact absurd hp (by decide +kernel))); have q1 := Free.sx_cell hS p1 (fun j hp hT => Or.elim hT (fun h => by obtain rfl := h; exact absurd hp (by decide +kernel)) (fun h => by obtain rfl := h; exact absurd hp (by decide +kernel))); have q2 := Free.sx_cell hS p2 (fun j hp hT => Or.elim hT (fun h => by obtain rfl := h; exact absurd hp (by decide +kernel)) (fun h => by obtain rfl := h; exact absurd hp (by decide +kernel))); have q3 := Free.sx_cell hS p3 (fun j hp hT => Or.elim hT (fun h => by obtain rfl := h; exact absurd hp (by decide +kernel)) (fun h => by obtain rfl := h; exact absurd hp (by decide +kernel))); have q4 := Free.sx_cell hS p4 (fun j hp hT => Or.elim hT (fun h => by obtain rfl := h; exact absurd hp (by decide +kernel)) (fun h => by obtain rfl := h; exact absurd hp (by decide +kernel))); have q5 := Free.sx_cell hS x0 (fun j hp hT => Or.elim hT (fun h => by obtain rfl := h; exact absurd hp (by decide +kernel)) (fun h => by obtain rfl := h; exact absurd hp (by decide +kernel))); have q6 := Free.sx_cell hS x1 (fun j hp hT => Or.elim hT (fun h => by obtain rfl := h; exact absurd hp (by decide +kernel)) (fun h => by obtain rfl := h; exact absurd hp (by decide +kernel))); have q7 := Free.sx_cell hS x2 (fun j hp hT => Or.elim hT (fun h => by obtain rfl := h; exact absurd hp (by decide +kernel)) (fun h => by obtain rfl := h; exact absurd hp (by decide +kernel))); go_simp <;> exact rfl); go_frame) | (refine Free.cw_skip rfl ?_; go_frame)))
      refine Free.cw_loud rfl rfl (fun K hK => ?_)
      go_wp2_with fail
      refine (hst.out _ ((Keeps.refl [] wr).drew)).mono ?_
      rintro e w5 ⟨vk', n', C', vke', vee', E', rfl, hW5, hJ5, hn5, hsr, hk5, hkb5, how5⟩
      have hCI5 := Lib.hid (hcs.out C' hsr)
      clear hsr
      refine hK _ _ rfl (Free.KeepsP.of hk5 (fun b hb => .inl trivial)) ?_
      clear hK K
      obtain ⟨ae2, ce2, rfl⟩ := hW5.re.early.form
      obtain ⟨ak2, ck2, rfl, _⟩ := hW5.re.kept.form
      obtain ⟨s2, hs2⟩ : ∃ x, E'.sent = x := ⟨_, rfl⟩
      obtain ⟨q2, hq2⟩ : ∃ x, E'.acked = x := ⟨_, rfl⟩
      obtain ⟨r2, hr2⟩ : ∃ x, E'.received = x := ⟨_, rfl⟩
      obtain ⟨K2, hK2⟩ : ∃ x, E'.kept.length = x := ⟨_, rfl⟩
      obtain ⟨N2, hN2⟩ : ∃ x, E'.early.length = x := ⟨_, rfl⟩
      rw [hs2, hq2, hr2, hK2, hN2]
      rw [hK2, hN2] at hW5
      have hbx5 := (hk5.block bx plt (fun hm => (hown.out bx hm).2 rfl)).trans hbx.out
      have hsz5 := hk5.size
      obtain ⟨z0, z1, z2, z3, z4, zf, zlt⟩ := cells5 hbx5
      have hfin := set5_all (w := w5) hbx5 (by simp [noB]) (.int .i64 s2) (.int .i64 q2) (.slice ak2 K2 ck2) (.int .i64 r2) (.slice ae2 N2 ce2)
      replace hfin := Lib.hid hfin
      replace hs2 := Lib.hid hs2
      replace hq2 := Lib.hid hq2
      replace hr2 := Lib.hid hr2
      replace hK2 := Lib.hid hK2
      replace hN2 := Lib.hid hN2
      replace hbx5 := Lib.hid hbx5
      replace hW5 := Lib.hid hW5
      replace hk5 := Lib.hid hk5
      replace how5 := Lib.hid how5
      (repeat (apply Free.cw_pure rfl rfl; (intro w'; go_simp <;> exact rfl); go_frame))
      refine Free.cw_loud rfl rfl (fun K hK => ?_)
      go_wp2
      refine hK _ _ rfl (Free.KeepsP.of hfin.out.2.1 (fun b hb => .inr trivial)) ?_
      clear hK K
      (repeat (apply Free.cw_pure rfl rfl; (intro w'; go_simp <;> exact rfl); go_frame))
      refine Free.cw_nil ?_
      go_wp2
      go_roundw
      case rel =>
        obtain ⟨g1, g2, g3⟩ := hfin.out
        have hnb : ∀ v : Value, NE w5 v → v.ownBlock ≠ some bx := fun v hv e => hv bx e _ _ hbx5.out
        exact ⟨k + 1, C', E', rfl, rfl, by omega, RunI.next hkw.out hbxw plt hown.out ((Keeps.refl [] wr).drew.of_nil.trans hk5.out) hW5.out how5.out hn hn5 hJ5 (Keeps.refl _ _) g2 g3 (by rw [hs2.out, hq2.out, hr2.out]; exact g1) ⟨hnb _ hW5.out.nk, hnb _ hW5.out.ny⟩, hCI5⟩
      case measure => simp [intOf]; omega
    · have hkN : k = N := by omega
      subst hkN
      obtain ⟨⟨B, n, vk, vke, vee, hW, hn, hbx, hown⟩, hJ, hkw, _⟩ := hI
      obtain ⟨p0, p1, p2, p3, p4, pf, plt⟩ := cells5 hbx
      have hrb := (hkw.block w.heap.size (by omega) (by simp)).trans hr0.out
      obtain ⟨z0, z1, z2, z3, z4, zf, zlt⟩ := cells5 hrb
      have hfin := set5_all (w := wr) hrb (by simp [noB]) (.int .i64 E.sent) (.int .i64 E.acked) vke (.int .i64 E.received) vee
      obtain ⟨ae, ce, rfl⟩ := hW.re.early.form
      obtain ⟨ak, ck, rfl, _⟩ := hW.re.kept.form
      have hbxn : bx ≠ w.heap.size := by omega
      replace hfin := Lib.hid hfin
      replace hW := Lib.hid hW
      replace hown := Lib.hid hown
      replace hkw := Lib.hid hkw
      replace hrb := Lib.hid hrb
      clear hbx
      go_wp2
      refine Free.wp_region_chain (fun i => i == 4) (fun i => true) (fun j b => j = 4 ∧ b = w.heap.size) (by kernel_rfl) (by kernel_rfl) (by kernel_rfl) ?_
      (repeat (first | (apply Free.cw_pure rfl rfl; (intro w'; go_simp <;> exact rfl); go_frame) | (apply Free.cw_steady rfl rfl rfl; (intro w' hS; have q0 := Free.sx_cell hS p0 (fun _ _ hT => hbxn hT.2); have q1 := Free.sx_cell hS p1 (fun _ _ hT => hbxn hT.2); have q2 := Free.sx_cell hS p2 (fun _ _ hT => hbxn hT.2); have q3 := Free.sx_cell hS p3 (fun _ _ hT => hbxn hT.2); have q4 := Free.sx_cell hS p4 (fun _ _ hT => hbxn hT.2); go_simp <;> exact rfl); go_frame) | (refine Free.cw_skip rfl ?_; go_frame)))
      refine Free.cw_loud rfl rfl (fun K hK => ?_)
      go_wp2
      refine hK _ _ rfl (Free.KeepsP.of hfin.out.2.1.drews (fun b hb => ⟨trivial, by simpa using hb⟩)) ?_
      clear hK K
      (repeat (apply Free.cw_pure rfl rfl; (intro w'; go_simp <;> exact rfl); go_frame))
      refine Free.cw_nil ?_
      go_wp2
      obtain ⟨g1, g2, g3⟩ := hfin.out
      refine bodyPost_ret (results_mid3 rfl _ _ _ _ _ _ _ _ _ _ rfl g1) rfl ?_
      have hnb : ∀ v : Value, NE wr v → v.ownBlock ≠ some w.heap.size := fun v hv e => hv _ e _ _ hrb.out
      exact ⟨B, bc, bm, n, vk, _, _, C, E, rfl, (hW.out.keep1 g2 g3 (fun hm => by have := (hown.out _ hm).1; omega) (hnb _ hW.out.nk) (hnb _ hW.out.ny)).keeps ((Keeps.refl [] _).drew), hJ, hn, fun b hb => by have := (hown.out b hb).1; omega, ((hkA.out.trans hkw.out).fresh g2 (by simp)).drew, hCI.out⟩
end Go.Proofs.Ytilmcdieihmiaaa
