/- Texts that the laws lean on, in the order in which they build. A trace that came about by operations is decoded from its encoding (plain). A certificate is read from its encoding (plain). append at a slice that is full: what is read behind it. Of whatever program. The law CertificateSpoils, walked. -/
import Derived.Test.YtiplgpefapeapaaKC15
set_option linter.unusedVariables false
set_option linter.unusedSimpArgs false
namespace Go.Proofs.Ytiplgpefapeapaa
open Go.RowKit

/-! ### the bytes -/
theorem digs_hd {n : Nat} (h : 0 < n) : ∃ b t, digs n = b :: t ∧ b ≠ 0 := by
  induction n using Nat.strongRecOn with
  | _ n ih =>
    rw [digs_pos h]
    rcases Nat.eq_zero_or_pos (n / 256) with e | e
    · rw [e, digs_zero]
      refine ⟨UInt8.ofNat (n % 256), [], rfl, fun e0 => ?_⟩
      have := congrArg UInt8.toNat e0
      simp at this; omega
    · obtain ⟨b, t, h1, h2⟩ := ih (n / 256) (by omega) e
      exact ⟨b, t ++ [UInt8.ofNat (n % 256)], by rw [h1]; rfl, h2⟩
theorem readU_enc (n : Nat) (l : List UInt8) (h : n < 18446744073709551616) : readU (encU n ++ l) = some (n, l) := by
  have h8 := digs_len8 h
  have hk : (UInt8.ofNat (digs n).length).toNat = (digs n).length := by simp; omega
  have hhead : 0 < (digs n).length → (digs n ++ l).headD 1 ≠ 0 := fun hp => by
    rcases Nat.eq_zero_or_pos n with e | e
    · rw [e, digs_zero] at hp; simp at hp
    · obtain ⟨b, t, h1, h2⟩ := digs_hd e
      rw [h1]; simpa using h2
  simp only [encU, List.cons_append, readU, hk]
  rw [if_pos ⟨h8, by simp, hhead⟩]
  simp [valU_digs]
theorem readB_enc (b : Bool) (l : List UInt8) : readB (encB b ++ l) = some (b, l) := by
  cases b
  · show (if (0 : UInt8).toNat ≤ 1 then some ((0 : UInt8).toNat == 1, l) else none) = _
    rw [if_pos (by decide)]; rfl
  · show (if (1 : UInt8).toNat ≤ 1 then some ((1 : UInt8).toNat == 1, l) else none) = _
    rw [if_pos (by decide)]; rfl
theorem rU_enc (n : Nat) (l : List UInt8) (h : n < 18446744073709551616) : rU (encU n ++ l, 0) = (n, (l, 0)) := by
  unfold rU
  rw [if_pos rfl]
  simp only [readU_enc n l h]
theorem rI_enc (z : Int) (l : List UInt8) (h : W64 z) : rI (encI z ++ l, 0) = (z, (l, 0)) := by
  unfold rI encI
  rw [rU_enc _ _ (zig_lt (w64_iff.1 h)), uzig_zig]
theorem rB_enc (b : Bool) (l : List UInt8) : rB (encB b ++ l, 0) = (b, (l, 0)) := by
  unfold rB
  rw [if_pos rfl]
  simp only [readB_enc b l]
theorem rCS_enc (K n : Nat) (l : List UInt8) (h : n < 18446744073709551616) (hK : n ≤ K) (hl : n ≤ l.length) : rCS K (encU n ++ l, 0) = (n, (l, 0)) := by
  unfold rCS rCK
  rw [if_pos rfl]
  simp only [readU_enc n l h]
  rw [if_pos (by unfold cEK; rw [if_neg (by omega), if_neg (by omega)])]
theorem encU_pos (n : Nat) : 1 ≤ (encU n).length := by simp [encU]
theorem rX_enc (x : T3) (l : List UInt8) (h : InsFit x) : rX (encX x ++ l, 0) = (x, (l, 0)) := by
  have e1 : encX x ++ l = encI x.1 ++ (encU x.2.1 ++ (encI x.2.2 ++ l)) := by simp [encX]
  unfold rX
  rw [e1, rI_enc _ _ h.a]
  simp only [rU_enc _ _ h.n, rI_enc _ _ h.c]
theorem rXs_enc : ∀ (X : List T3) (l : List UInt8) (L : List T3), (∀ x ∈ X, InsFit x) → rXs X.length (encXs X ++ l, 0) L = (L ++ X, (l, 0))
  | [], l, L, _ => by simp [rXs, encXs]
  | x :: X, l, L, h => by
    have e1 : encXs (x :: X) ++ l = encX x ++ (encXs X ++ l) := by simp [encXs]
    rw [e1, List.length_cons, rXs_succ, rX_enc x _ (h x (by simp))]
    simp only
    rw [rXs_enc X l (L ++ [x]) (fun y hy => h y (by simp [hy]))]
    simp
theorem encXs_pos : ∀ X : List T3, X.length ≤ (encXs X).length
  | [] => by simp
  | x :: X => by
    have := encXs_pos X
    have h1 := encU_pos (zig x.1)
    have e1 : encXs (x :: X) = encX x ++ encXs X := by simp [encXs]
    rw [e1]
    simp only [encX, encI, List.length_append, List.length_cons]
    omega
theorem rA_enc (K : Nat) (a : Ans) (l : List UInt8) (ha : a.Ok) (hK : a.ins.length ≤ K) (hb : a.ins.length < 18446744073709551616) : rA K (encA a ++ l, 0) = a ∧ (rAx K (encA a ++ l, 0)).2 = (l, 0) := by
  have e1 : encA a ++ l = encI a.m ++ (encI a.ow ++ (encU a.n ++ (encI a.ep ++ (encB a.kn ++ (encB a.rt ++ (encI a.lu ++ (encU a.ins.length ++ (encXs a.ins ++ l)))))))) := by simp [encA, encA0]
  have q1 := rI_enc a.m (encI a.ow ++ (encU a.n ++ (encI a.ep ++ (encB a.kn ++ (encB a.rt ++ (encI a.lu ++ (encU a.ins.length ++ (encXs a.ins ++ l)))))))) ha.q.1
  have q2 := rI_enc a.ow (encU a.n ++ (encI a.ep ++ (encB a.kn ++ (encB a.rt ++ (encI a.lu ++ (encU a.ins.length ++ (encXs a.ins ++ l))))))) ha.q.2.1
  have q3 := rU_enc a.n (encI a.ep ++ (encB a.kn ++ (encB a.rt ++ (encI a.lu ++ (encU a.ins.length ++ (encXs a.ins ++ l)))))) ha.q.2.2
  have q4 := rI_enc a.ep (encB a.kn ++ (encB a.rt ++ (encI a.lu ++ (encU a.ins.length ++ (encXs a.ins ++ l))))) ha.ep
  have q5 := rB_enc a.kn (encB a.rt ++ (encI a.lu ++ (encU a.ins.length ++ (encXs a.ins ++ l))))
  have q6 := rB_enc a.rt (encI a.lu ++ (encU a.ins.length ++ (encXs a.ins ++ l)))
  have q7 := rI_enc a.lu (encU a.ins.length ++ (encXs a.ins ++ l)) ha.lu
  have hp := encXs_pos a.ins
  have q8 := rCS_enc K a.ins.length (encXs a.ins ++ l) hb hK (by simp; omega)
  have q9 := rXs_enc a.ins l [] ha.fitI
  rw [e1]
  generalize encI a.m ++ (encI a.ow ++ (encU a.n ++ (encI a.ep ++ (encB a.kn ++ (encB a.rt ++ (encI a.lu ++ (encU a.ins.length ++ (encXs a.ins ++ l)))))))) = l0 at *
  generalize encI a.ow ++ (encU a.n ++ (encI a.ep ++ (encB a.kn ++ (encB a.rt ++ (encI a.lu ++ (encU a.ins.length ++ (encXs a.ins ++ l))))))) = l1 at *
  generalize encU a.n ++ (encI a.ep ++ (encB a.kn ++ (encB a.rt ++ (encI a.lu ++ (encU a.ins.length ++ (encXs a.ins ++ l)))))) = l2 at *
  generalize encI a.ep ++ (encB a.kn ++ (encB a.rt ++ (encI a.lu ++ (encU a.ins.length ++ (encXs a.ins ++ l))))) = l3 at *
  generalize encB a.kn ++ (encB a.rt ++ (encI a.lu ++ (encU a.ins.length ++ (encXs a.ins ++ l)))) = l4 at *
  generalize encB a.rt ++ (encI a.lu ++ (encU a.ins.length ++ (encXs a.ins ++ l))) = l5 at *
  generalize encI a.lu ++ (encU a.ins.length ++ (encXs a.ins ++ l)) = l6 at *
  generalize encU a.ins.length ++ (encXs a.ins ++ l) = l7 at *
  have s1 : f1 (l0, 0) = (l1, 0) := by unfold f1; rw [q1]
  have s2 : f2 (l0, 0) = (l2, 0) := by unfold f2; rw [s1, q2]
  have s3 : f3 (l0, 0) = (l3, 0) := by unfold f3; rw [s2, q3]
  have s4 : f4 (l0, 0) = (l4, 0) := by unfold f4; rw [s3, q4]
  have s5 : f5 (l0, 0) = (l5, 0) := by unfold f5; rw [s4, q5]
  have s6 : f6 (l0, 0) = (l6, 0) := by unfold f6; rw [s5, q6]
  have s7 : f7 (l0, 0) = (l7, 0) := by unfold f7; rw [s6, q7]
  have s8 : rAn K (l0, 0) = (a.ins.length, (encXs a.ins ++ l, 0)) := by unfold rAn; rw [s7, q8]
  have s9 : rAx K (l0, 0) = (a.ins, (l, 0)) := by unfold rAx; rw [s8, q9]; simp
  refine ⟨?_, by rw [s9]⟩
  unfold rA rA0
  rw [s9, s1, s2, s3, s4, s5, s6, q1, q2, q3, q4, q5, q6, q7]
theorem encH_pos : ∀ H : List Ans, H.length ≤ (encH H).length
  | [] => by simp
  | a :: H => by
    have := encH_pos H
    have h1 := encU_pos (zig a.m)
    have e1 : encH (a :: H) = encA a ++ encH H := by simp [encH]
    rw [e1]
    simp only [encA, encA0, encI, List.length_append, List.length_cons]
    omega
theorem encH_drop (H : List Ans) (k : Nat) (hk : k < H.length) : encH (H.drop k) = encA H[k] ++ encH (H.drop (k + 1)) := by
  rw [List.drop_eq_getElem_cons hk]
  unfold encH
  rw [List.map_cons, List.flatten_cons]
/-! ### what a trace's record gives -/
def rpl (t : Tr) (H : List Ans) : Tr := H.foldl (fun t a => (t.answer a).1) t
theorem rpl_snoc (t : Tr) (H : List Ans) (a : Ans) : rpl t (H ++ [a]) = ((rpl t H).answer a).1 := by unfold rpl; rw [List.foldl_append]; rfl
theorem rpl_take (t : Tr) (H : List Ans) (k : Nat) (hk : k < H.length) : rpl t (H.take (k + 1)) = ((rpl t (H.take k)).answer H[k]).1 := by rw [List.take_succ_eq_append_getElem hk, rpl_snoc]
theorem rpl_len (t : Tr) : ∀ (H : List Ans) (n : Nat), (∀ a ∈ H, a.ins.length ≤ 5) → t.qs.length ≤ n → (rpl t H).qs.length ≤ n + 5 * H.length := fun H => by
  induction H generalizing t with
  | nil => intro n _ h; simpa [rpl] using h
  | cons a H ih =>
    intro n ha h
    have e : rpl t (a :: H) = rpl (t.answer a).1 H := rfl
    rw [e]
    have h1 : (t.answer a).1.qs.length ≤ n + 5 := by
      rcases answer_qs t a with e | e
      · rw [e]; omega
      · rw [e]
        have e1 := fold_len a.m a.ins (setQ a.q a t.qs)
        rw [setQ_length] at e1
        have e2 := ha a (by simp)
        omega
    have := ih (t.answer a).1 (n + 5) (fun b hb => ha b (by simp [hb])) h1
    simp only [List.length_cons]
    omega
def Tr.base (t : Tr) : Tr := Tr.new t.im t.is t.st
structure Tr.Rep (t : Tr) : Prop where
  ok : ∀ k (hk : k < t.hist.length), ((rpl t.base (t.hist.take k)).answer t.hist[k]).2 = 0
  fin : ∃ u, gA (rpl t.base t.hist) t.ag.length = some u ∧ rfS t.rf u = some { t with told := 0 }
  tl : t.told = 0 ∨ ∃ k, k ≤ t.hist.length ∧ (rpl t.base (t.hist.take k)).state = 0 ∧ t.told = (rpl t.base (t.hist.take k)).qs.length
theorem Tr.Rep.new (im is : Int) (st : T3) : (Tr.new im is st).Rep := ⟨fun k hk => by simp [Tr.new] at hk, ⟨Tr.new im is st, rfl, rfl⟩, .inl rfl⟩
theorem ans_told2 (t : Tr) (a : Ans) (x : Int) : ({ t with told := x } : Tr).answer a = ({ (t.answer a).1 with told := x }, (t.answer a).2) := by
  unfold Tr.answer
  simp only
  split
  · rfl
  split
  · rfl
  split
  · rfl
  split
  · rfl
  have e : ({ t with told := x } : Tr).take a = { t.take a with told := x } := rfl
  simp only [Tr.take, Tr.put]
  split
  · rfl
  unfold Tr.close
  simp only
  split <;> rfl
/-- While a trace gathers, it is what its history gives. -/
theorem Tr.Rep.now {t : Tr} (h : t.Rep) (ha : t.ag = []) (hr : t.rf = false) : rpl t.base t.hist = { t with told := 0 } := by
  obtain ⟨u, h1, h2⟩ := h.fin
  rw [ha] at h1
  have e0 : rfS t.rf u = some u := by rw [hr]; rfl
  rw [e0] at h2
  have e1 : rpl t.base t.hist = u := Option.some.inj h1
  have e2 : u = { t with told := 0 } := Option.some.inj h2
  rw [e1, e2]
theorem Tr.Rep.conf {t : Tr} (h : t.Rep) (hr : t.rf = false) : gA (rpl t.base t.hist) t.ag.length = some { t with told := 0 } := by
  obtain ⟨u, h1, h2⟩ := h.fin
  have e0 : rfS t.rf u = some u := by rw [hr]; rfl
  rw [e0] at h2
  have e2 : u = { t with told := 0 } := Option.some.inj h2
  rw [h1, e2]
theorem Tr.answer_more (t : Tr) (a : Ans) : (t.answer a).1 = t ∨ (t.state = 0 ∧ (t.answer a).2 = 0 ∧ (t.answer a).1.hist = t.hist ++ [a] ∧ (t.answer a).1.rf = t.rf ∧ (t.answer a).1.told = t.told ∧ (t.answer a).1.ag = t.ag) := by
  unfold Tr.answer
  split
  · exact .inl rfl
  rename_i h0
  have h0 : t.state = 0 := by simpa using h0
  split
  · exact .inl rfl
  split
  · exact .inr ⟨h0, rfl, rfl, rfl, rfl, rfl⟩
  split
  · exact .inr ⟨h0, rfl, rfl, rfl, rfl, rfl⟩
  split
  · exact .inr ⟨h0, rfl, rfl, rfl, rfl, rfl⟩
  unfold Tr.close
  split <;> exact .inr ⟨h0, rfl, rfl, rfl, rfl, rfl⟩
theorem Tr.Rep.answer {t : Tr} {n : Nat} (h : t.Rep) (hb : t.Bnd n) (a : Ans) : (t.answer a).1.Rep := by
  rcases t.answer_more a with e | ⟨h0, h1, h2, h3, h4, h5⟩
  · rw [e]; exact h
  have hag := hb.s0 h0
  have hrf : t.rf = false := by
    cases e : t.rf with
    | false => rfl
    | true => have := hb.rf e; omega
  have hnow := h.now hag hrf
  obtain ⟨_, i1, i2, i3, _⟩ := Tr.answer_hist t a
  have hbase : (t.answer a).1.base = t.base := by unfold Tr.base; rw [i1, i2, i3]
  have hend : rpl t.base (t.hist ++ [a]) = { (t.answer a).1 with told := 0 } := by rw [rpl_snoc, hnow, ans_told2]
  refine ⟨fun k hk => ?_, ?_, ?_⟩
  · rw [hbase]
    simp only [h2] at hk ⊢
    rcases Nat.lt_or_ge k t.hist.length with hl | hl
    · rw [List.take_append_of_le_length (by omega), List.getElem_append_left hl]
      exact h.ok k hl
    · have hk' : k = t.hist.length := by simp at hk; omega
      subst hk'
      rw [List.take_append_of_le_length (Nat.le_refl _), List.take_length, hnow, ans_told2]
      simpa using h1
  · have z1 : rpl (t.answer a).1.base (t.answer a).1.hist = { (t.answer a).1 with told := 0 } := by rw [hbase, h2]; exact hend
    have z2 : (t.answer a).1.ag.length = 0 := by rw [h5, hag]; rfl
    have z3 : (t.answer a).1.rf = false := by rw [h3, hrf]
    refine ⟨{ (t.answer a).1 with told := 0 }, by rw [z1, z2]; rfl, ?_⟩
    unfold rfS
    rw [if_neg (by rw [z3]; decide)]
  · rw [hbase, h2, h4]
    rcases h.tl with e | ⟨k, k1, k2, k3⟩
    · exact .inl e
    · refine .inr ⟨k, by simp; omega, ?_⟩
      rw [List.take_append_of_le_length k1]
      exact ⟨k2, k3⟩
theorem Tr.Rep.queries {t : Tr} {n : Nat} (h : t.Rep) (hb : t.Bnd n) : t.queries.1.Rep := by
  unfold Tr.queries
  split
  · exact h
  rename_i h0
  have h0 : t.state = 0 := by simpa using h0
  have hag := hb.s0 h0
  have hrf : t.rf = false := by
    cases e : t.rf with
    | false => rfl
    | true => have := hb.rf e; omega
  have hnow := h.now hag hrf
  refine ⟨h.ok, h.fin, .inr ⟨t.hist.length, Nat.le_refl _, ?_⟩⟩
  show (rpl t.base (t.hist.take t.hist.length)).state = 0 ∧ (t.qs.length : Int) = (rpl t.base (t.hist.take t.hist.length)).qs.length
  rw [List.take_length, hnow]
  exact ⟨h0, rfl⟩
theorem Tr.Rep.agree {t : Tr} {n : Nat} (h : t.Rep) (hb : t.Bnd n) (m : Int) : (t.agreeT m).1.Rep := by
  by_cases h1 : t.state = 1
  · have hrf : t.rf = false := by
      cases e : t.rf with
      | false => rfl
      | true => have := hb.rf e; omega
    have hconf := h.conf hrf
    have hlt := hb.s1 h1
    have hp : t.clm[t.ag.length]? = some t.clm[t.ag.length] := List.getElem?_eq_getElem hlt
    unfold Tr.agreeT
    rw [if_neg (by simp [h1]), hp]
    simp only
    split
    · exact h
    · rename_i hm
      have hm : t.clm[t.ag.length].m = m := by simpa using hm
      refine ⟨h.ok, ⟨{ t with told := 0, ag := t.ag ++ [m], state := if t.ag.length + 1 = t.clm.length then 2 else t.state }, ?_, ?_⟩, h.tl⟩
      · show gA (rpl t.base t.hist) (t.ag ++ [m]).length = _
        rw [List.length_append]
        show (gA (rpl t.base t.hist) t.ag.length).bind gS = _
        rw [hconf]
        show gS { t with told := 0 } = _
        unfold gS
        rw [if_pos h1]
        have e1 : ({ t with told := 0 } : Tr).clm = t.clm := Tr.clm_qs rfl
        have e2 : ({ t with told := 0 } : Tr).pm = m := by
          unfold Tr.pm
          rw [e1]
          simp only [hp]
          exact hm
        rw [e2]
        unfold Tr.agreeT
        rw [if_neg (by simp [h1]), e1]
        simp only [hp]
        rw [if_neg (by simp [hm])]
      · simp only [hrf]
        rfl
  · have e : (t.agreeT m).1 = t := by
      unfold Tr.agreeT
      rw [if_pos h1]
    rw [e]; exact h
theorem Tr.Rep.refuse {t : Tr} {n : Nat} (h : t.Rep) (hb : t.Bnd n) (m : Int) : (t.refuseT m).1.Rep := by
  by_cases h1 : t.state = 1
  · have hrf : t.rf = false := by
      cases e : t.rf with
      | false => rfl
      | true => have := hb.rf e; omega
    have hconf := h.conf hrf
    have hlt := hb.s1 h1
    have hp : t.clm[t.ag.length]? = some t.clm[t.ag.length] := List.getElem?_eq_getElem hlt
    unfold Tr.refuseT
    rw [if_neg (by simp [h1]), hp]
    simp only
    split
    · exact h
    · rename_i hm
      have hm : t.clm[t.ag.length].m = m := by simpa using hm
      refine ⟨h.ok, ⟨{ t with told := 0 }, hconf, ?_⟩, h.tl⟩
      unfold rfS
      rw [if_pos rfl, if_pos h1]
      have e1 : ({ t with told := 0 } : Tr).clm = t.clm := Tr.clm_qs rfl
      have e2 : ({ t with told := 0 } : Tr).pm = m := by
        unfold Tr.pm
        rw [e1]
        simp only [hp]
        exact hm
      rw [e2]
      unfold Tr.refuseT
      rw [if_neg (by simp [h1]), e1]
      simp only [hp]
      rw [if_neg (by simp [hm])]
  · have e : (t.refuseT m).1 = t := by
      unfold Tr.refuseT
      rw [if_pos h1]
    rw [e]; exact h
theorem Tr.Rep.step {t : Tr} {n : Nat} (h : t.Rep) (hb : t.Bnd n) (o : Op3) : (o.step t).Rep := by
  unfold Op3.step
  split
  · exact h.answer hb _
  split
  · exact h.queries hb
  split
  · exact h.agree hb _
  split
  · exact h.refuse hb _
  · exact h
/-! ### the round trip -/
def tlT (t : Tr) : List UInt8 := encU t.ag.length ++ encB t.rf
theorem encT_head (t : Tr) (tn : Nat) (ht : t.told = tn) : encT t = encI t.im ++ (encI t.is ++ (encI t.st.1 ++ (encU t.st.2.1 ++ (encI t.st.2.2 ++ (encU tn ++ (encU t.hist.length ++ (encH t.hist ++ tlT t))))))) := by
  simp [encT, encT0, tlT, ht]
theorem dec_head {t : Tr} (hn : t.Num) (tn : Nat) (ht : t.told = tn) (g1 : tn ≤ 1025) (g2 : t.hist.length ≤ 100000) : hTold (encT t) = tn ∧ hN (encT t) = t.hist.length ∧ hX (encT t) = ((encH t.hist ++ tlT t, 0), t.base, decide (tn = 0) || decide (tn = 1)) := by
  have hl : t.hist.length ≤ (encT t).length := by
    rw [encT_head t tn ht]
    have := encH_pos t.hist
    simp only [List.length_append]
    omega
  have e0 := encT_head t tn ht
  generalize encT t = l0 at *
  have q1 := rI_enc t.im (encI t.is ++ (encI t.st.1 ++ (encU t.st.2.1 ++ (encI t.st.2.2 ++ (encU tn ++ (encU t.hist.length ++ (encH t.hist ++ tlT t))))))) hn.im
  rw [← e0] at q1
  have q2 := rI_enc t.is (encI t.st.1 ++ (encU t.st.2.1 ++ (encI t.st.2.2 ++ (encU tn ++ (encU t.hist.length ++ (encH t.hist ++ tlT t)))))) hn.is
  have q3 := rI_enc t.st.1 (encU t.st.2.1 ++ (encI t.st.2.2 ++ (encU tn ++ (encU t.hist.length ++ (encH t.hist ++ tlT t))))) hn.s0
  have q4 := rU_enc t.st.2.1 (encI t.st.2.2 ++ (encU tn ++ (encU t.hist.length ++ (encH t.hist ++ tlT t)))) hn.s1
  have q5 := rI_enc t.st.2.2 (encU tn ++ (encU t.hist.length ++ (encH t.hist ++ tlT t))) hn.s2
  have q6 := rU_enc tn (encU t.hist.length ++ (encH t.hist ++ tlT t)) (by omega)
  have q7 := rCS_enc l0.length t.hist.length (encH t.hist ++ tlT t) (by omega) hl (by have := encH_pos t.hist; simp; omega)
  have s1 : h1 l0 = (encI t.is ++ (encI t.st.1 ++ (encU t.st.2.1 ++ (encI t.st.2.2 ++ (encU tn ++ (encU t.hist.length ++ (encH t.hist ++ tlT t)))))), 0) := by unfold h1; rw [q1]
  have s2 : h2 l0 = (encI t.st.1 ++ (encU t.st.2.1 ++ (encI t.st.2.2 ++ (encU tn ++ (encU t.hist.length ++ (encH t.hist ++ tlT t))))), 0) := by unfold h2; rw [s1, q2]
  have s3 : h3 l0 = (encU t.st.2.1 ++ (encI t.st.2.2 ++ (encU tn ++ (encU t.hist.length ++ (encH t.hist ++ tlT t)))), 0) := by unfold h3; rw [s2, q3]
  have s4 : h4 l0 = (encI t.st.2.2 ++ (encU tn ++ (encU t.hist.length ++ (encH t.hist ++ tlT t))), 0) := by unfold h4; rw [s3, q4]
  have s5 : h5 l0 = (encU tn ++ (encU t.hist.length ++ (encH t.hist ++ tlT t)), 0) := by unfold h5; rw [s4, q5]
  have s6 : h6 l0 = (encU t.hist.length ++ (encH t.hist ++ tlT t), 0) := by unfold h6; rw [s5, q6]
  have s7 : hTold l0 = tn := by
    unfold hTold
    rw [s5, q6]
    simp only
    omega
  have s8 : hN l0 = t.hist.length := by unfold hN; rw [s6, q7]
  refine ⟨s7, s8, ?_⟩
  unfold hX
  rw [s7, s6, q7]
  unfold hT
  rw [s1, s2, s3, s4, q1, q2, q3, q4, q5]
  rfl
theorem dec_step {t : Tr} (h : t.Rep) (hi : ∀ a ∈ t.hist, a.Ok ∧ a.ins.length ≤ 5) (tn K : Nat) (b : Bool) (hK : 5 ≤ K) (k : Nat) (hk : k ≤ t.hist.length) (hb : tn = 0 ∨ tn = 1 → b = true) :
    ∃ c, dA K tn ((encH t.hist ++ tlT t, 0), t.base, b) k = some ((encH (t.hist.drop k) ++ tlT t, 0), rpl t.base (t.hist.take k), c) ∧ ((tn = 0 ∨ ∃ j, j ≤ k ∧ (rpl t.base (t.hist.take j)).state = 0 ∧ tn = (rpl t.base (t.hist.take j)).qs.length) → c = true) := by
  induction k with
  | zero =>
    refine ⟨b, by simp [dA, rpl], ?_⟩
    rintro (e | ⟨j, h1, _, h3⟩)
    · exact hb (.inl e)
    · refine hb (.inr ?_)
      rw [show j = 0 by omega] at h3
      exact h3
  | succ k ih =>
    have hk' : k < t.hist.length := by omega
    obtain ⟨c, e1, e2⟩ := ih (by omega)
    have ha := hi _ (List.getElem_mem hk')
    obtain ⟨r1, r2⟩ := rA_enc K t.hist[k] (encH (t.hist.drop (k + 1)) ++ tlT t) ha.1 (by omega) (by omega)
    have e3 : encH (t.hist.drop k) ++ tlT t = encA t.hist[k] ++ (encH (t.hist.drop (k + 1)) ++ tlT t) := by rw [encH_drop _ _ hk']; simp
    refine ⟨c || askd tn (rpl t.base (t.hist.take (k + 1))), ?_, ?_⟩
    · show (dA K tn _ k).bind (dS K tn) = _
      rw [e1]
      show dS K tn _ = _
      unfold dS
      simp only
      rw [e3, r1, r2, if_neg (by have := h.ok k hk'; omega), rpl_take _ _ _ hk']
    · rintro (e | ⟨j, h1, h2, h3⟩)
      · rw [e2 (.inl e)]; rfl
      · by_cases hj : j ≤ k
        · rw [e2 (.inr ⟨j, hj, h2, h3⟩)]; rfl
        · have hj' : j = k + 1 := by omega
          subst hj'
          unfold askd
          rw [h2, h3]
          simp
/-- What was encoded is decoded. -/
theorem dec_encT {t : Tr} {n : Nat} (h : t.Rep) (hb : t.Bnd n) (hv : t.Inv) (hn : n ≤ 30) (hm : t.Num) : dec (encT t) = some t := by
  obtain ⟨tn, ht, htl⟩ := hb.tl
  have hq := hb.qs
  have hl := hb.hl
  obtain ⟨s1, s2, s3⟩ := dec_head hm tn ht (by omega) (by omega)
  have hi : ∀ a ∈ t.hist, a.Ok ∧ a.ins.length ≤ 5 := fun a ha => ⟨hv.hi a ha, hb.hi a ha⟩
  by_cases hK : 5 ≤ (encT t).length
  · obtain ⟨c, d1, d2⟩ := dec_step h hi tn (encT t).length (decide (tn = 0) || decide (tn = 1)) hK t.hist.length (Nat.le_refl _) (by simp)
    have hc : c = true := d2 (by
      rcases h.tl with e | ⟨k, k1, k2, k3⟩
      · exact .inl (by omega)
      · exact .inr ⟨k, k1, k2, by omega⟩)
    rw [List.drop_length, List.take_length] at d1
    unfold dec
    rw [s1, s2, s3, d1]
    show dG (encT t) tn _ = some t
    unfold dG
    have e0 : (encH [] ++ tlT t : List UInt8) = encU t.ag.length ++ (encB t.rf ++ []) := by simp [encH, tlT]
    obtain ⟨u, g1, g2⟩ := h.fin
    have hag := hb.ag
    simp only
    rw [e0, rU_enc _ _ (by omega)]
    simp only
    rw [show min t.ag.length 1024 = t.ag.length by omega, g1]
    show dB (encT t) tn c _ u = some t
    unfold dB
    rw [rB_enc]
    simp only
    rw [g2]
    show dE (encT t) tn c _ _ = some t
    have e1 : ({ ({ t with told := 0 } : Tr) with told := (tn : Int) } : Tr) = t := by rw [← ht]
    unfold dE
    rw [e1, if_pos ⟨rfl, hc, rfl⟩]
  · exfalso
    have e := encT_head t tn ht
    have l1 := encU_pos (zig t.im)
    have l2 := encU_pos (zig t.is)
    have l3 := encU_pos (zig t.st.1)
    have l4 := encU_pos t.st.2.1
    have l5 := encU_pos (zig t.st.2.2)
    rw [e] at hK
    simp only [encI, List.length_append] at hK
    omega
theorem dec_bnd {t : Tr} {n : Nat} (h : t.Rep) (hb : t.Bnd n) (hv : t.Inv) (hn : n ≤ 30) (hm : t.Num) : DBnd (encT t) := by
  obtain ⟨tn, ht, htl⟩ := hb.tl
  have hq := hb.qs
  have hl := hb.hl
  have hag := hb.ag
  obtain ⟨s1, s2, s3⟩ := dec_head hm tn ht (by omega) (by omega)
  have hi : ∀ a ∈ t.hist, a.Ok ∧ a.ins.length ≤ 5 := fun a ha => ⟨hv.hi a ha, hb.hi a ha⟩
  have e := encT_head t tn ht
  have l1 := encU_pos (zig t.im)
  have l2 := encU_pos (zig t.is)
  have l3 := encU_pos (zig t.st.1)
  have l4 := encU_pos t.st.2.1
  have l5 := encU_pos (zig t.st.2.2)
  have hlen : (encT t).length ≤ 1099511627776 ∧ 5 ≤ (encT t).length := by
    have m1 := encI_len hm.im
    have m2 := encI_len hm.is
    have m3 := encI_len hm.s0
    have m4 := encU_len hm.s1
    have m5 := encI_len hm.s2
    have m6 := encU_len (n := tn) (by omega)
    have m7 := encU_len (n := t.hist.length) (by omega)
    have m8 := encH_len (L := t.hist) (fun a ha => ⟨(hi a ha).1, by have := (hi a ha).2; omega⟩)
    have m9 := encU_len (n := t.ag.length) (by omega)
    rw [e]
    simp only [encI, tlT, encB, List.length_append, List.length_cons, List.length_nil] at *
    omega
  have hrl : ∀ k, k ≤ t.hist.length → (rpl t.base (t.hist.take k)).qs.length ≤ 151 := fun k hk => by
    have := rpl_len t.base (t.hist.take k) 1 (fun a ha => (hi a (List.mem_of_mem_take ha)).2) (by simp [Tr.base, Tr.new])
    rw [List.length_take] at this
    omega
  refine ⟨hlen.1, fun k s u b hk hd => ?_, fun s u b hd => ?_, by rw [s2]; omega⟩
  · rw [s2] at hk
    rw [s1, s3] at hd
    obtain ⟨c, d1, _⟩ := dec_step h hi tn (encT t).length (decide (tn = 0) || decide (tn = 1)) hlen.2 k (by omega) (by simp)
    rw [d1] at hd
    cases hd
    have ha := hi _ (List.getElem_mem hk)
    have r1 := (rA_enc (encT t).length t.hist[k] (encH (t.hist.drop (k + 1)) ++ tlT t) ha.1 (by omega) (by omega)).1
    have e3 : encH (t.hist.drop k) ++ tlT t = encA t.hist[k] ++ (encH (t.hist.drop (k + 1)) ++ tlT t) := by rw [encH_drop _ _ hk]; simp
    rw [e3, r1]
    have := hrl k (by omega)
    omega
  · rw [s1, s2, s3] at hd
    obtain ⟨c, d1, _⟩ := dec_step h hi tn (encT t).length (decide (tn = 0) || decide (tn = 1)) hlen.2 t.hist.length (Nat.le_refl _) (by simp)
    rw [d1] at hd
    cases hd
    have := hrl t.hist.length (Nat.le_refl _)
    omega
end Go.Proofs.Ytiplgpefapeapaa

namespace Go.Proofs.Ytiplgpefapeapaa
open Go.RowKit

theorem rU_stay {s : RS} (h : s.2 ≠ 0) : (rU s).2 = s := by obtain ⟨l, e⟩ := s; unfold rU; rw [if_neg h]
theorem rI_stay {s : RS} (h : s.2 ≠ 0) : (rI s).2 = s := rU_stay h
theorem rB_stay {s : RS} (h : s.2 ≠ 0) : (rB s).2 = s := by obtain ⟨l, e⟩ := s; unfold rB; rw [if_neg h]
theorem rCS_stay {K : Nat} {s : RS} (h : s.2 ≠ 0) : rCS K s = (0, s) := if_neg h
theorem rX_stay {s : RS} (h : s.2 ≠ 0) : (rX s).2 = s := by
  have h1 := rI_stay h
  have h2 := rU_stay h
  unfold rX
  rw [h1, h2, h1]
theorem rXs_stay : ∀ (n : Nat) {s : RS} (L : List T3), s.2 ≠ 0 → (rXs n s L).2 = s
  | 0, _, _, _ => rfl
  | n + 1, s, L, h => by
    rw [rXs_succ, rX_stay h]
    exact rXs_stay n _ h
/-- Where no error comes, the two ways of reading agree. -/
theorem rXc_eq : ∀ (n : Nat) (s : RS) (L : List T3), (rXs n s L).2.2 = 0 → rXc n s L = rXs n s L
  | 0, _, _, _ => rfl
  | n + 1, s, L, h => by
    by_cases hs : s.2 = 0
    · rw [rXs_succ] at h ⊢
      unfold rXc
      rw [if_pos hs]
      exact rXc_eq n _ _ h
    · rw [rXs_stay (n + 1) L hs] at h
      exact absurd h hs
theorem rNs_enc (X : List T3) (l : List UInt8) (h : ∀ x ∈ X, T3.Fit x) (hl : X.length ≤ 1024) : rNs (encNs X ++ l, 0) = (X, (l, 0)) := by
  have e1 : encNs X ++ l = encU X.length ++ (encXs X ++ l) := by simp [encNs]
  have hp := encXs_pos X
  have q1 := rCS_enc 1024 X.length (encXs X ++ l) (by omega) hl (by simp; omega)
  have q2 := rXs_enc X l [] (fun x hx => (h x hx).ins)
  unfold rNs
  rw [e1, q1]
  simp only
  rw [rXc_eq _ _ _ (by rw [q2]), q2]
  simp
theorem rAs_enc (a : Ans) (l : List UInt8) (ha : a.Fit) (hl : a.ins.length ≤ 1024) : rAs (encA a ++ l, 0) = (a, (l, 0)) := by
  obtain ⟨q1, q2⟩ := rA_enc 1024 a l (ha.ok (by omega)) hl (by omega)
  generalize (encA a ++ l, (0 : Int)) = s at *
  have e1 : rXc (rCS 1024 (f7 s)).1 (rCS 1024 (f7 s)).2 [] = rAx 1024 s := by
    have h : rAx 1024 s = rXs (rCS 1024 (f7 s)).1 (rCS 1024 (f7 s)).2 [] := rfl
    rw [h, rXc_eq _ _ _ (by rw [← h, q2])]
  unfold rAs
  rw [e1, q2]
  refine Prod.ext ?_ rfl
  exact q1
theorem rYc_enc : ∀ (Y : List Ans) (l : List UInt8) (L : List Ans), (∀ a ∈ Y, a.Fit ∧ a.ins.length ≤ 1024) → rYc Y.length (encH Y ++ l, 0) L = (L ++ Y, (l, 0))
  | [], l, L, _ => by simp [rYc, encH]
  | a :: Y, l, L, h => by
    have e1 : encH (a :: Y) ++ l = encA a ++ (encH Y ++ l) := by simp [encH]
    obtain ⟨h1, h2⟩ := h a (by simp)
    rw [e1, List.length_cons]
    unfold rYc
    rw [if_pos rfl, rAs_enc a _ h1 h2]
    simp only
    rw [rYc_enc Y l (L ++ [a]) (fun y hy => h y (by simp [hy]))]
    simp
theorem rPs_enc (p : PCl) (l : List UInt8) (h : p.Fit) (hl : p.st.length ≤ 1024 ∧ p.sc.length ≤ 1024 ∧ p.ch.length ≤ 1024) : rPs (encP p ++ l, 0) = (p, (l, 0)) := by
  have e1 : encP p ++ l = encI p.m ++ (encI p.ep ++ (encNs p.st ++ (encNs p.sc ++ (encNs p.ch ++ l)))) := by simp [encP]
  unfold rPs
  rw [e1, rI_enc _ _ h.m]
  simp only
  rw [rI_enc _ _ h.ep]
  simp only
  rw [rNs_enc _ _ h.st hl.1]
  simp only
  rw [rNs_enc _ _ h.sc hl.2.1]
  simp only
  rw [rNs_enc _ _ h.ch hl.2.2]
theorem rPc_enc : ∀ (P : List PCl) (l : List UInt8) (L : List PCl), (∀ p ∈ P, p.Fit ∧ p.st.length ≤ 1024 ∧ p.sc.length ≤ 1024 ∧ p.ch.length ≤ 1024) → rPc P.length (encPs P ++ l, 0) L = (L ++ P, (l, 0))
  | [], l, L, _ => by simp [rPc, encPs]
  | p :: P, l, L, h => by
    have e1 : encPs (p :: P) ++ l = encP p ++ (encPs P ++ l) := by simp [encPs]
    obtain ⟨h1, h2⟩ := h p (by simp)
    rw [e1, List.length_cons]
    unfold rPc
    rw [if_pos rfl, rPs_enc p _ h1 h2]
    simp only
    rw [rPc_enc P l (L ++ [p]) (fun y hy => h y (by simp [hy]))]
    simp
theorem encPs_pos : ∀ P : List PCl, P.length ≤ (encPs P).length
  | [] => by simp
  | p :: P => by
    have := encPs_pos P
    have h1 := encU_pos (zig p.m)
    have e1 : encPs (p :: P) = encP p ++ encPs P := by simp [encPs]
    rw [e1]
    simp only [encP, encI, List.length_append, List.length_cons]
    omega
theorem dCt_enc {c : Ct} (h : c.F24) (hf : c.Fit) : dCt (encCt c) = c ∧ (dP (encCt c)).2 = ([], 0) := by
  have e1 : encCt c = encI c.im ++ (encI c.is ++ (encX c.st ++ (encU c.an.length ++ (encH c.an ++ (encU c.cl.length ++ encPs c.cl))))) := by simp [encCt]
  have q1 := rI_enc c.im (encI c.is ++ (encX c.st ++ (encU c.an.length ++ (encH c.an ++ (encU c.cl.length ++ encPs c.cl))))) hf.im
  have q2 := rI_enc c.is (encX c.st ++ (encU c.an.length ++ (encH c.an ++ (encU c.cl.length ++ encPs c.cl)))) hf.is
  have q3 := rX_enc c.st (encU c.an.length ++ (encH c.an ++ (encU c.cl.length ++ encPs c.cl))) hf.st.ins
  have hp := encH_pos c.an
  have hp2 := encPs_pos c.cl
  have g1 := h.an
  have g2 := h.cl
  have q4 := rCS_enc 1024 c.an.length (encH c.an ++ (encU c.cl.length ++ encPs c.cl)) (by omega) g1 (by simp; omega)
  have q5 := rYc_enc c.an (encU c.cl.length ++ encPs c.cl) [] (fun a ha => ⟨hf.an a ha, h.ins a ha⟩)
  have q6 := rCS_enc 1024 c.cl.length (encPs c.cl) (by omega) g2 (by omega)
  have q7 := rPc_enc c.cl [] [] (fun p hp => ⟨hf.cl p hp, h.ns p hp⟩)
  rw [List.append_nil] at q7
  rw [← e1] at q1
  have hY : dY (encCt c) = (c.an, (encU c.cl.length ++ encPs c.cl, 0)) := by
    unfold dY
    rw [q1]
    simp only
    rw [q2]
    simp only
    rw [q3]
    simp only
    rw [q4]
    simp only
    rw [q5]
    simp
  have hP : dP (encCt c) = (c.cl, ([], 0)) := by
    unfold dP
    rw [hY]
    simp only
    rw [q6]
    simp only
    rw [q7]
    simp
  refine ⟨?_, by rw [hP]⟩
  unfold dCt
  rw [hY, hP, q1]
  simp only
  rw [q2]
  simp only
  rw [q3]
theorem decS_enc {c : Ct} (h : c.F24) (hf : c.Fit) : decS (encCt c) = some c := by
  obtain ⟨h1, h2⟩ := dCt_enc h hf
  unfold decS
  rw [h2, h1, if_pos ⟨rfl, by decide, rfl⟩]
theorem Ct.Few.f24 {c : Ct} (h : c.Few) : c.F24 := ⟨by have := h.an; omega, by have := h.cl; omega, fun a ha => by have := h.ins a ha; omega, fun p hp => by have := h.ns p hp; omega⟩
theorem sum_le_mul {α : Type} (g : α → Nat) (K : Nat) : ∀ l : List α, (∀ x ∈ l, g x ≤ K) → (l.map g).sum ≤ l.length * K
  | [], _ => by simp
  | x :: r, h => by
    have h1 := h x (by simp)
    have h2 := sum_le_mul g K r (fun y hy => h y (by simp [hy]))
    simp only [List.map_cons, List.sum_cons, List.length_cons, Nat.add_mul, Nat.one_mul]
    omega
theorem Ct.F24.wt {c : Ct} (h : c.F24) : c.wt ≤ 200000000000 := by
  have h1 := sum_le_mul wA 31000 c.an (fun a ha => by have := h.ins a ha; unfold wA; omega)
  have h2 := sum_le_mul wP 93000 c.cl (fun p hp => by have := h.ns p hp; unfold wP; omega)
  have g1 := h.an
  have g2 := h.cl
  have g3 : c.an.length * 31000 ≤ 1024 * 31000 := Nat.mul_le_mul_right _ g1
  have g4 : c.cl.length * 93000 ≤ 1024 * 93000 := Nat.mul_le_mul_right _ g2
  unfold Ct.wt
  omega
theorem encCt_len {c : Ct} (h : c.F24) (hf : c.Fit) : (encCt c).length ≤ 200000000 := by
  have h1 := encI_len hf.im
  have h2 := encI_len hf.is
  have h3 := encX_len hf.st.ins
  have g1 := h.an
  have g2 := h.cl
  have h4 := encU_len (n := c.an.length) (by omega)
  have h5 := encU_len (n := c.cl.length) (by omega)
  have h6 : (encH c.an).length ≤ c.an.length * 28000 := by
    have : ∀ Y : List Ans, (∀ a ∈ Y, a.Fit ∧ a.ins.length ≤ 1024) → (encH Y).length ≤ Y.length * 28000 := by
      intro Y
      induction Y with
      | nil => intro _; simp [encH]
      | cons a Y ih =>
        intro hy
        obtain ⟨q1, q2⟩ := hy a (by simp)
        have e1 : encH (a :: Y) = encA a ++ encH Y := by simp [encH]
        have q3 := encA0_len (q1.ok (by omega))
        have q4 := encXs_len (q1.ok (by omega)).fitI
        have q5 := ih (fun b hb => hy b (by simp [hb]))
        rw [e1]
        simp only [encA, List.length_append, List.length_cons, Nat.add_mul, Nat.one_mul]
        omega
    exact this c.an (fun a ha => ⟨hf.an a ha, h.ins a ha⟩)
  have h7 : (encPs c.cl).length ≤ c.cl.length * 84000 := by
    have : ∀ P : List PCl, (∀ p ∈ P, p.Fit ∧ p.st.length ≤ 1024 ∧ p.sc.length ≤ 1024 ∧ p.ch.length ≤ 1024) → (encPs P).length ≤ P.length * 84000 := by
      intro P
      induction P with
      | nil => intro _; simp [encPs]
      | cons p P ih =>
        intro hy
        obtain ⟨q1, q2, q3, q4⟩ := hy p (by simp)
        have e1 : encPs (p :: P) = encP p ++ encPs P := by simp [encPs]
        have r1 := encI_len q1.m
        have r2 := encI_len q1.ep
        have r3 := encNs_len q1.st (by omega)
        have r4 := encNs_len q1.sc (by omega)
        have r5 := encNs_len q1.ch (by omega)
        have q5 := ih (fun b hb => hy b (by simp [hb]))
        rw [e1]
        simp only [encP, List.length_append, List.length_cons, Nat.add_mul, Nat.one_mul]
        omega
    exact this c.cl (fun p hp => ⟨hf.cl p hp, h.ns p hp⟩)
  have g3 : c.an.length * 28000 ≤ 1024 * 28000 := Nat.mul_le_mul_right _ g1
  have g4 : c.cl.length * 84000 ≤ 1024 * 84000 := Nat.mul_le_mul_right _ g2
  unfold encCt
  simp only [List.length_append]
  omega
end Go.Proofs.Ytiplgpefapeapaa

namespace Go.Proofs.Ytiplgpefapeapaa
open Go Go.RowKit

theorem Sh.owp_full {α : Type} {P : Program} {o : Oper} {a : Act} {w : World} {K : Act → World → Prop} {Q : Exit → Act → World → Prop} (s : Sh α) {e t : TypeId} {z : Value} {by_ : Nat} (hinf : (P.info? e).map (fun i => (i.zero, i.size, i.bytes)) = some (some z, s.sz, by_)) (hz : z.cells.size = s.sz) (ht : P.underlying t = some (.slice e))
    (b ad : Addr) (n m c : Nat) (L M : List α) (x y : Operand) (ho : o.op = .call { callee := .builtin .append, args := #[x, y], argTypes := #[t, t] }) (hs : a.eval x = .slice (some b) n n) (hx : a.eval y = .slice (some ad) m c) (h : s.R w (.slice (some b) n n) L) (hsl : s.R w (.slice (some ad) m c) M)
    (hl : (L.length + M.length) * (by_ + 1) ≤ 140737488355328) (hR : ∀ v' w', s.R w' v' (L ++ M) → Keeps [] w w' → (v'.ownBlock = some b.block ∨ ∃ g, v'.ownBlock = some g ∧ w.heap.size ≤ g) → K (a.put o.dst v') w') : o.wp P a w K Q := by
  obtain ⟨i0, hi, hz0, hz1, hz2⟩ := info_parts hinf
  have h1 : L.length + M.length ≤ (L.length + M.length) * (by_ + 1) := Nat.le_mul_of_pos_right _ (by omega)
  have h2 : (L.length + M.length) * by_ ≤ (L.length + M.length) * (by_ + 1) := Nat.mul_le_mul_left _ (by omega)
  have hh := h
  obtain ⟨q1, a1, c1, e1, r1, r2, r3, r4⟩ := h
  obtain ⟨q2, a2, c2, e2, t1, t2, t3, t4⟩ := hsl
  cases e1
  cases e2
  have hcs : ∀ (N : List α) (A : Addr), (0 < (s.cs N).length → ∃ g o, some A = some (⟨g, o, none⟩ : Addr) ∧ ∀ j u, (s.cs N)[j]? = some u → w.cell? ⟨g, o + j, none⟩ = some u) → ∀ j u, (s.cs N)[j]? = some u → w.cell? (A.add j) = some u := fun N A hc j u hj => by
    obtain ⟨g, o', eA, hc2⟩ := hc (by have := (List.getElem?_eq_some_iff.1 hj).1; omega)
    simp only [Option.some.injEq] at eA
    subst eA
    rw [Go.WideShapes.add_plain]
    exact hc2 j u hj
  unfold Oper.wp execOp
  simp only [ho, resolve, invoke, builtin, Sem.run_bind, Sem.run_pure, Result.andThen_ok, List.map_toArray, List.map_cons, List.map_nil, hs, hx]
  by_cases hm : M.length = 0
  · have hM : M = [] := List.eq_nil_of_length_eq_zero hm
    subst hM
    have hr : (Builtin.append_ #[t, t] o.type #[.slice (some b) L.length L.length, .slice (some ad) ([] : List α).length c]).run P w = .ok (.slice (some b) L.length L.length) w := by
      simp [Builtin.append_, run_underlying ht, sizeOf, typeInfo, hi, Builtin.lenOf, Builtin.firstCells, loadCells, loadCellsFrom, storeCells]
    rw [hr]
    exact hR _ _ (by rw [List.append_nil]; exact hh) (Keeps.refl _ _) (.inl rfl)
  · have hr := run_append_grow (P := P) (w := w) t o.type e i0 z ht hi hz0 b L.length L.length (s.cs L) (by rw [hz1]; exact Sh.cs_len L) (hcs L b r4) ad M.length c (s.cs M) (by rw [hz1]; exact Sh.cs_len M) (hcs M ad t4) (by omega) (by omega) (growslice_fits (by omega) (by rw [hz2]; omega))
    rw [hr]
    refine hR _ _ ⟨by rw [Sh.cs_len, List.length_append], _, _, by rw [List.length_append], by rw [List.length_append]; exact grownCap_ge _ _ _ _, grownCap_le_maxLen _ _ _ _ (by unfold maxLen; omega), by simp, fun _ => ⟨_, 0, rfl, fun j u hj => ?_⟩⟩ ((Keeps.refl _ w).drew.alloc _) (.inr ⟨_, rfl, Nat.le_refl _⟩)
    rw [show w.heap.size = w.drew.heap.size from rfl, World.cell?_alloc_mark, Nat.zero_add]
    rw [Sh.cs_append] at hj
    have hlt := (List.getElem?_eq_some_iff.1 hj).1
    rw [Array.getElem?_append_left (by simpa using hlt)]
    simpa using hj
end Go.Proofs.Ytiplgpefapeapaa

namespace Go.Proofs.Ytiplgpefapeapaa
open Go.RowKit

def ChkF (c : Ct) (e : Ending) : Prop := ∃ n : Int, e = .returned (.int .i64 n) ∧ (n = 0 → chk c = 0 ∧ c.Few)
theorem checkF_c (w : World) (x : CtV) (c : Ct) (h : CtW w x c) (hfit : c.Fit) (hf : fewV c = true) :
    Calls Try.prog 8 #[ctV x] w fun e w' => ChkF c e ∧ Keeps [] w w' := by
  by_cases hF : c.F24
  · have hfw := few_ofV ⟨hF.an, by have := hF.cl; omega, hF.ins, hF.ns⟩ hf
    refine (check_c w x c h hfit hfw).mono ?_
    rintro e w' ⟨rfl, hk⟩
    exact ⟨⟨_, rfl, fun h => ⟨h, hfw⟩⟩, hk⟩
  · refine (checkNo_c w x c h hF).mono ?_
    rintro e w' ⟨rfl, hk⟩
    exact ⟨⟨_, rfl, fun h => by simp at h⟩, hk⟩
/-- A certificate that is not accepted. -/
theorem checkN_c (w : World) (x : CtV) (c : Ct) (h : CtW w x c) (hfit : c.Fit) (hf : c.Few) (hc : chk c ≠ 0) :
    ∃ n : Int, n ≠ 0 ∧ Calls Try.prog 8 #[ctV x] w fun e w' => e = .returned (.int .i64 n) ∧ Keeps [] w w' := ⟨chk c, hc, check_c w x c h hfit hf⟩
theorem Ct.Few.setAn {c : Ct} (h : c.Few) {i : Nat} {a : Ans} (ha : a.ins.length ≤ 1000) : ({ c with an := c.an.set i a } : Ct).Few :=
  ⟨by have := h.an; simpa using this, h.cl, fun b hb => by
    rcases List.mem_or_eq_of_mem_set hb with hb | rfl
    · exact h.ins b hb
    · exact ha, h.ns⟩
theorem Ct.Few.dropAn {c : Ct} (h : c.Few) (i : Nat) : ({ c with an := c.an.eraseIdx i } : Ct).Few :=
  ⟨Nat.le_trans (List.length_eraseIdx_le ..) h.an, h.cl, fun b hb => h.ins b (List.mem_of_mem_eraseIdx hb), h.ns⟩
theorem Ct.Few.dropCl {c : Ct} (h : c.Few) (i : Nat) : ({ c with cl := c.cl.eraseIdx i } : Ct).Few :=
  ⟨h.an, Nat.le_trans (List.length_eraseIdx_le ..) h.cl, h.ins, fun b hb => h.ns b (List.mem_of_mem_eraseIdx hb)⟩
theorem Ct.Fit.setAn {c : Ct} (h : c.Fit) {i : Nat} {a : Ans} (ha : a.Fit) : ({ c with an := c.an.set i a } : Ct).Fit :=
  ⟨h.im, h.is, h.st, fun b hb => by
    rcases List.mem_or_eq_of_mem_set hb with hb | rfl
    · exact h.an b hb
    · exact ha, h.cl⟩
theorem Ct.Fit.dropAn {c : Ct} (h : c.Fit) (i : Nat) : ({ c with an := c.an.eraseIdx i } : Ct).Fit := ⟨h.im, h.is, h.st, fun b hb => h.an b (List.mem_of_mem_eraseIdx hb), h.cl⟩
theorem Ct.Fit.dropCl {c : Ct} (h : c.Fit) (i : Nat) : ({ c with cl := c.cl.eraseIdx i } : Ct).Fit := ⟨h.im, h.is, h.st, h.an, fun b hb => h.cl b (List.mem_of_mem_eraseIdx hb)⟩
/-- One answer is written in its place. -/
theorem CtO.setAn {w w' : World} {B : Nat} {x : CtV} {c : Ct} {XA : List AnV} {XC : List ClV} (h : CtO w B x c XA XC) {i : Nat} (hi : i < c.an.length) {y : AnV} {a : Ans} {S : List Nat} (hk : Keeps S w w') (hS : ∀ b ∈ S, (slv x.va).ownBlock = some b) (hO : shA.O w' B tA (slv x.va) (XA.set i y)) (hy : InA w y a) : CtW w' x { c with an := c.an.set i a } := by
  have htg : ∀ b ∈ S, ∃ cs : Array Value, w.heap[b]? = some (.cells cs tA (0, 0)) := fun b hb => h.a.tag b (hS b hb)
  have hki := hk.ki (fun b hb cs f e => by obtain ⟨c', hc⟩ := htg b hb; rw [hc] at e; cases e)
  have hrc := h.rc.keepS hk (fun b hb cs f e => by obtain ⟨c', hc⟩ := htg b hb; rw [hc] at e; cases e)
  have hc1 := h.cc.keepS hk (fun b hb e => by obtain ⟨c', hc⟩ := htg b hb; obtain ⟨c2, hc2⟩ := h.cc.tag b e; rw [hc] at hc2; cases hc2)
  refine ⟨h.im, h.is, h.s0, h.s1, h.s2, ⟨XA.set i y, hO.r, ?_, ?_⟩, hrc.lc hc1.r⟩
  · simp [h.la.1]
  · intro k u v hu hv
    rw [List.getElem?_set] at hu hv
    by_cases e : i = k
    · subst e
      rw [if_pos rfl] at hu hv
      split at hu
      · split at hv
        · cases hu; cases hv; exact (hy.ki hki).r
        · exact absurd hi (by assumption)
      · cases hu
    · rw [if_neg e] at hu hv
      exact ((h.la.2 k u v hu hv).ki hki).r
theorem Sh.R.cut {α : Type} {s : Sh α} {w : World} {a : Option Addr} {n c : Nat} {L : List α} (h : s.R w (.slice a n c) L) : s.R w (.slice a n n) L := by
  obtain ⟨h1, a', c', e, h2, h3, h4, h5⟩ := h
  cases e
  exact ⟨h1, _, _, rfl, Nat.le_refl _, by omega, fun e => by have := h4 e; omega, h5⟩
theorem CtO.keeps {w w' : World} {B : Nat} {x : CtV} {c : Ct} {XA : List AnV} {XC : List ClV} (h : CtO w B x c XA XC) (hk : Keeps [] w w') : CtO w' B x c XA XC := ⟨h.im, h.is, h.s0, h.s1, h.s2, h.a.keeps hk, h.la.ki hk.ki0, h.cc.keeps hk, h.rc.keeps hk⟩
theorem w64_wrap (z : Int) : W64 (wrap64 z) := by
  rw [w64_iff]
  unfold wrap64
  constructor <;> omega
theorem wrap_ne (z : Int) : wrap64 (z + 1) ≠ z := by
  unfold wrap64
  omega
theorem eraseIdx_split {α : Type} (l : List α) (i : Nat) : l.eraseIdx i = l.take i ++ l.drop (i + 1) := List.eraseIdx_eq_take_drop_succ l i
theorem LRd.part {w : World} {X : List AnV} {Y : List Ans} (h : LRd w X Y) (i : Nat) : LRd w (X.take i ++ X.drop (i + 1)) (Y.take i ++ Y.drop (i + 1)) := by
  rw [← eraseIdx_split, ← eraseIdx_split]
  refine ⟨?_, fun k x y hx hy => ?_⟩
  · have := h.1
    simp only [List.length_eraseIdx, this]
  · rw [List.getElem?_eraseIdx] at hx hy
    split at hx
    · rename_i hk; rw [if_pos hk] at hy; exact h.2 k x y hx hy
    · rename_i hk; rw [if_neg hk] at hy; exact h.2 (k + 1) x y hx hy
theorem RowsR.part {w : World} {X : List ClV} {P : List PCl} (h : X.length = P.length ∧ ∀ (k : Nat) (x : ClV) (p : PCl), X[k]? = some x → P[k]? = some p → CR w x p) (i : Nat) :
    (X.take i ++ X.drop (i + 1)).length = (P.take i ++ P.drop (i + 1)).length ∧ ∀ (k : Nat) (x : ClV) (p : PCl), (X.take i ++ X.drop (i + 1))[k]? = some x → (P.take i ++ P.drop (i + 1))[k]? = some p → CR w x p := by
  rw [← eraseIdx_split, ← eraseIdx_split]
  refine ⟨?_, fun k x y hx hy => ?_⟩
  · simp only [List.length_eraseIdx, h.1]
  · rw [List.getElem?_eraseIdx] at hx hy
    split at hx
    · rename_i hk; rw [if_pos hk] at hy; exact h.2 k x y hx hy
    · rename_i hk; rw [if_neg hk] at hy; exact h.2 (k + 1) x y hx hy
theorem Rows'.part {w : World} {X : List ClV} {P : List PCl} (h : Rows' w X P) (i : Nat) : Rows' w (X.take i ++ X.drop (i + 1)) (P.take i ++ P.drop (i + 1)) := by
  rw [← eraseIdx_split, ← eraseIdx_split]
  refine ⟨?_, fun k x y hx hy => ?_⟩
  · have := h.1
    simp only [List.length_eraseIdx, this]
  · rw [List.getElem?_eraseIdx] at hx hy
    split at hx
    · rename_i hk; rw [if_pos hk] at hy; exact h.2 k x y hx hy
    · rename_i hk; rw [if_neg hk] at hy; exact h.2 (k + 1) x y hx hy
/-- One answer is left out. -/
theorem CtO.dropA {w w' V : World} {B D i : Nat} {x : CtV} {c : Ct} {XA : List AnV} {XC : List ClV} {cs : Array Value} (h : CtO w B x c XA XC) (hk : Keeps [] w w') (hks : Keeps [D] w' V) (hD : w'.heap[D]? = some (.cells cs tCt (0, 0))) {v : Option Addr × Nat × Nat} (hR : shA.R w' (slv v) (XA.take i ++ XA.drop (i + 1))) (hv : (slv v).ownBlock ≠ some D) : CtW V { x with va := v } { c with an := c.an.eraseIdx i } := by
  have hki := hks.ki (fun b hb cs f e => by simp only [List.mem_singleton] at hb; subst hb; rw [hD] at e; cases e)
  have hrc := (h.rc.keeps hk).keepS hks (fun b hb cs f e => by simp only [List.mem_singleton] at hb; subst hb; rw [hD] at e; cases e)
  have hc1 := (h.cc.keeps hk).keepS hks (fun b hb e => by
    simp only [List.mem_singleton] at hb; subst hb
    obtain ⟨c2, hc2⟩ := (h.cc.keeps hk).tag b e; rw [hD] at hc2; cases hc2)
  refine ⟨h.im, h.is, h.s0, h.s1, h.s2, ⟨XA.take i ++ XA.drop (i + 1), hR.keepS hks (fun b hb => by simp only [List.mem_singleton] at hb; subst hb; exact hv), ?_⟩, hrc.lc hc1.r⟩
  have := (((h.la.ki hk.ki0).ki hki).lrd).part i
  rw [← eraseIdx_split c.an] at this
  exact this
/-- One claim is left out. -/
theorem CtO.dropC {w w' V : World} {B D i : Nat} {x : CtV} {c : Ct} {XA : List AnV} {XC : List ClV} {cs : Array Value} (h : CtO w B x c XA XC) (hk : Keeps [] w w') (hks : Keeps [D] w' V) (hD : w'.heap[D]? = some (.cells cs tCt (0, 0))) {v : Option Addr × Nat × Nat} (hR : shC.R w' (slv v) (XC.take i ++ XC.drop (i + 1))) (hv : (slv v).ownBlock ≠ some D) : CtW V { x with vc := v } { c with cl := c.cl.eraseIdx i } := by
  have hki := hks.ki (fun b hb cs f e => by simp only [List.mem_singleton] at hb; subst hb; rw [hD] at e; cases e)
  have hrc := ((h.rc.keeps hk).keepS hks (fun b hb cs f e => by simp only [List.mem_singleton] at hb; subst hb; rw [hD] at e; cases e)).part i
  have ha1 := (h.a.keeps hk).keepS hks (fun b hb e => by
    simp only [List.mem_singleton] at hb; subst hb
    obtain ⟨c2, hc2⟩ := (h.a.keeps hk).tag b e; rw [hD] at hc2; cases hc2)
  rw [← eraseIdx_split c.cl] at hrc
  exact ⟨h.im, h.is, h.s0, h.s1, h.s2, ⟨XA, ha1.r, ((h.la.ki hk.ki0).ki hki).lrd⟩, hrc.lc (hR.keepS hks (fun b hb => by simp only [List.mem_singleton] at hb; subst hb; exact hv))⟩
theorem tmod_nat (n N : Nat) : Int.tmod (n : Int) (N : Int) = ((n % N : Nat) : Int) := by rw [← Int.ofNat_tmod]
set_option maxRecDepth 100000 in
set_option maxHeartbeats 20000000 in
theorem spoils_c (w : World) (x : CtV) (c : Ct) (n1 n2 : Nat) (h : CtW w x c) (hfit : c.Fit) (hn1 : n1 < 256) (hn2 : n2 < 256) :
    Calls Try.prog 5 #[ctV x, .int .u8 n1, .int .u8 n2] w fun e w' => e = .returned (.bool true) ∧ Keeps [] w w' := by
  have hfw := fun (W : World) (hk : Keeps [] w W) => fewX_c W x c (h.keeps hk)
  have hck := fun (W : World) (hk : Keeps [] w W) => checkF_c W x c (h.keeps hk) hfit
  have hen := fun (W : World) (hk : Keeps [] w W) (hF : c.F24) => encodeS_c W x c (h.keeps hk) hfit (by have := hF.wt; omega)
  obtain ⟨x0, x1, x2, x3, x4, ⟨x5, x6, x7⟩, ⟨x8, x9, x10⟩⟩ := x
  simp only [ctV, slv] at hfw hck hen
  have hA := heap_alloc_new w (.cells #[.int .i64 x0, .int .i64 x1, .int .i64 x2, .int .u64 x3, .int .i64 x4, .slice x5 x6 x7, .slice x8 x9 x10] tCt)
  have hkA := (Keeps.refl [] w).alloc (.cells #[.int .i64 x0, .int .i64 x1, .int .i64 x2, .int .u64 x3, .int .i64 x4, .slice x5 x6 x7, .slice x8 x9 x10] tCt)
  obtain ⟨b, hb⟩ : ∃ b, fewV c = b := ⟨_, rfl⟩
  rw [hb] at hfw hck
  replace hfw := Lib.hid hfw
  replace hck := Lib.hid hck
  replace hen := Lib.hid hen
  replace hb := Lib.hid hb
  replace hA := Lib.hid hA
  replace hkA := Lib.hid hkA
  replace hfit := Lib.hid hfit
  clear h
  simp only [ctV, slv]
  go_enter Try.func5, Try.ntmps5
  go_upto_region 1 with fail
  generalize (w.alloc (.cells #[.int .i64 x0, .int .i64 x1, .int .i64 x2, .int .u64 x3, .int .i64 x4, .slice x5 x6 x7, .slice x8 x9 x10] tCt)) = W at *
  obtain ⟨B, hB⟩ : ∃ B, w.heap.size = B := ⟨_, rfl⟩
  rw [hB] at hA ⊢
  replace hB := Lib.hid hB
  obtain ⟨i0, i1, i2, i3, i4, i5, i6, if', il⟩ := cl7 hA.out
  go_wp2_with fail
  refine (hfw.out _ hkA.out).mono ?_
  rintro e w1 ⟨rfl, hk1⟩
  replace hA := Lib.hid ((hk1.block _ (lt_of_blk hA.out) (by simp)).trans hA.out)
  replace hkA := Lib.hid (hkA.out.trans hk1)
  clear i0 i1 i2 i3 i4 i5 i6 if' il hk1 hfw
  obtain ⟨i0, i1, i2, i3, i4, i5, i6, if', il⟩ := cl7 hA.out
  cases b with
  | false =>
    go_wp2_with fail
    refine (awake_c w1).mono ?_
    rintro e w2 ⟨rfl, hk2⟩
    have hkz := Lib.hid (hkA.out.trans hk2)
    go_wp2
    go_ret
    exact ⟨rfl, hkz.out⟩
  | true =>
  go_wp2_with fail
  refine (hck.out _ hkA.out (by first | rfl | trivial)).mono ?_
  rintro e w2 ⟨⟨n, rfl, hn⟩, hk1⟩
  replace hA := Lib.hid ((hk1.block _ (lt_of_blk hA.out) (by simp)).trans hA.out)
  replace hkA := Lib.hid (hkA.out.trans hk1)
  replace hn := Lib.hid hn
  clear i0 i1 i2 i3 i4 i5 i6 if' il hk1 hck
  obtain ⟨i0, i1, i2, i3, i4, i5, i6, if', il⟩ := cl7 hA.out
  by_cases hz : n = 0
  case neg =>
    have hz2 : (n != 0) = true := by simpa using hz
    go_wp2_with fail
    refine (awake_c w2).mono ?_
    rintro e w3 ⟨rfl, hk2⟩
    have hkz := Lib.hid (hkA.out.trans hk2)
    go_wp2
    go_ret
    exact ⟨rfl, hkz.out⟩
  case pos =>
  obtain ⟨hchk, hFew⟩ := hn.out hz
  have hz2 : (n != 0) = false := by simpa using hz
  have hG := good_of hchk
  have hF24 := hFew.f24
  replace hz := Lib.hid hz
  replace hG := Lib.hid hG
  replace hFew := Lib.hid hFew
  have hcall := hen.out w2 hkA.out hF24
  have hdec := fun (W : World) (v : Value) (hs : SlB W v (encCt c)) => decodeS_c W v (encCt c) hs (by have := encCt_len hF24 hfit.out; omega) (by rw [(dCt_enc hF24 hfit.out).1]; have := hF24.wt; omega) (by rw [(dCt_enc hF24 hfit.out).1]; exact hfit.out)
  have hds := decS_enc hF24 hfit.out
  replace hcall := Lib.hid hcall
  replace hdec := Lib.hid hdec
  replace hds := Lib.hid hds
  replace hF24 := Lib.hid hF24
  clear hn hchk hen
  go_wp2_with fail
  refine hcall.out.mono ?_
  rintro e w3 ⟨ve, rfl, hSe, hk1⟩
  replace hkA := Lib.hid (hkA.out.trans hk1)
  clear hk1 hcall i0 i1 i2 i3 i4 i5 i6 if' il hA
  replace hSe := Lib.hid hSe
  go_wp2_with fail
  refine (hdec.out w3 ve hSe.out).mono ?_
  rintro e w4 hP
  have hA0 : 0 < c.an.length := by obtain ⟨a, ha, _⟩ := hG.out.start; exact List.length_pos_of_mem ha
  have hC0 : 0 < c.cl.length := by
    obtain ⟨a, ha, _⟩ := hG.out.start
    obtain ⟨p, hp, _⟩ := clm_of hG.out.srt ⟨a, ha, rfl⟩
    rw [hG.out.cl]
    exact List.length_pos_of_mem hp
  have hP2 : ∃ (z0 z1 z2 : Int) (z3 : Nat) (z4 : Int) (ga NA ca gc NC cc : Nat) (XA : List AnV) (XC : List ClV), e = .returned (.tuple #[.agg #[.int .i64 z0, .int .i64 z1, .int .i64 z2, .int .u64 z3, .int .i64 z4, .slice (some ⟨ga, 0, none⟩) NA ca, .slice (some ⟨gc, 0, none⟩) NC cc], .int .i64 0]) ∧ NA = c.an.length ∧ NC = c.cl.length ∧ XA.length = NA ∧ XC.length = NC ∧ NA ≤ ca ∧ NC ≤ cc ∧ ca ≤ maxLen ∧ cc ≤ maxLen ∧ CtO w4 w3.heap.size ⟨z0, z1, z2, z3, z4, (some ⟨ga, 0, none⟩, NA, ca), (some ⟨gc, 0, none⟩, NC, cc)⟩ c XA XC ∧ Keeps [] w3 w4 := by
    rcases hP with ⟨h1, _⟩ | ⟨⟨z0, z1, z2, z3, z4, za, zc⟩, c', XA, XC, h1, h2, h3, h4⟩
    · rw [hds.out] at h1; cases h1
    · rw [hds.out] at h1; cases h1
      have l1 := h3.la.1
      have l2 := h3.rc.1
      obtain ⟨ga, ca, e1, _⟩ := h3.a.form1 (by omega)
      obtain ⟨gc, cc, e2, _⟩ := h3.cc.form1 (by omega)
      obtain ⟨_, _, e3, r1, r2, _⟩ := h3.a.r.form
      obtain ⟨_, _, e4, r3, r4, _⟩ := h3.cc.r.form
      obtain ⟨y1, y2, y3⟩ := za
      obtain ⟨y4, y5, y6⟩ := zc
      simp only [slv] at e1 e2 e3 e4
      cases e1
      cases e2
      cases e3
      cases e4
      exact ⟨z0, z1, z2, z3, z4, ga, XA.length, ca, gc, XC.length, cc, XA, XC, h2, l1, l2, rfl, rfl, r1, r3, r2, r4, h3, h4⟩
  clear hP
  obtain ⟨z0, z1, z2, z3, z4, ga, NA, ca, gc, NC, cc, XA, XC, rfl, eNA, eNC, eXA, eXC, hca, hcc, hcam, hccm, hO, hk1⟩ := hP2
  have hNA0 : 0 < NA := by omega
  have hNC0 : 0 < NC := by omega
  have hNAm : NA ≤ 1000 := by have := hFew.out.an; omega
  have hNCm : NC ≤ 1000 := by have := hFew.out.cl; omega
  have hDk := (Keeps.refl [] w4).alloc (.cells #[.int .i64 z0, .int .i64 z1, .int .i64 z2, .int .u64 z3, .int .i64 z4, .slice (some ⟨ga, 0, none⟩) NA ca, .slice (some ⟨gc, 0, none⟩) NC cc] tCt)
  have hD0 := heap_alloc_new w4 (.cells #[.int .i64 z0, .int .i64 z1, .int .i64 z2, .int .u64 z3, .int .i64 z4, .slice (some ⟨ga, 0, none⟩) NA ca, .slice (some ⟨gc, 0, none⟩) NC cc] tCt)
  have hO5 : CtO (w4.alloc (.cells #[.int .i64 z0, .int .i64 z1, .int .i64 z2, .int .u64 z3, .int .i64 z4, .slice (some ⟨ga, 0, none⟩) NA ca, .slice (some ⟨gc, 0, none⟩) NC cc] tCt)) w3.heap.size ⟨z0, z1, z2, z3, z4, (some ⟨ga, 0, none⟩, NA, ca), (some ⟨gc, 0, none⟩, NC, cc)⟩ c XA XC := ⟨hO.im, hO.is, hO.s0, hO.s1, hO.s2, hO.a.keeps hDk, hO.la.ki hDk.ki0, hO.cc.keeps hDk, hO.rc.keeps hDk⟩
  have hk03 := hkA
  have hkA0 : Hid (w.heap.size ≤ w4.heap.size) := Lib.hid (hkA.out.trans hk1).size
  replace hkA := Lib.hid ((hkA.out.trans hk1).trans hDk)
  have hw3 := Lib.hid (hk1.size)
  replace eNA := Lib.hid eNA
  replace eNC := Lib.hid eNC
  replace eXA := Lib.hid eXA
  replace eXC := Lib.hid eXC
  replace hO5 := Lib.hid hO5
  replace hD0 := Lib.hid hD0
  clear hO hk1 hDk hA0 hC0 hdec hds hSe
  go_upto_region 4 with fail
  generalize (w4.alloc (.cells #[.int .i64 z0, .int .i64 z1, .int .i64 z2, .int .u64 z3, .int .i64 z4, .slice (some ⟨ga, 0, none⟩) NA ca, .slice (some ⟨gc, 0, none⟩) NC cc] tCt)) = W5 at *
  obtain ⟨D, hD⟩ : ∃ D, w4.heap.size = D := ⟨_, rfl⟩
  rw [hD] at hD0 ⊢
  replace hD := Lib.hid hD
  obtain ⟨d0, d1, d2, d3, d4, d5, d6, df, dl⟩ := cl7 hD0.out
  have na0 : ((NA : Int) == 0) = false := by simp; omega
  have nc0 : ((NC : Int) == 0) = false := by simp; omega
  have tm1 := tmod_nat n2 NA
  have tm2 := tmod_nat n2 NC
  have hiA : n2 % NA < NA := Nat.mod_lt _ hNA0
  have hiC : n2 % NC < NC := Nat.mod_lt _ hNC0
  obtain ⟨i, hi⟩ : ∃ i, n2 % NA = i := ⟨_, rfl⟩
  obtain ⟨k, hk⟩ : ∃ i, n2 % NC = i := ⟨_, rfl⟩
  rw [hi] at tm1 hiA
  rw [hk] at tm2 hiC
  replace hi := Lib.hid hi
  replace hk := Lib.hid hk
  go_upto_region 6 with fail
  (refine wp_region_quiet_lit (by kernel_rfl) (by kernel_rfl) ?_; (repeat (first | go_big_quiet_step (fail) | quiet_step (fail))); with_reducible refine wpQuiet_nil ?_; intro _ hw'; obtain ⟨nq, hw''⟩ := hw'; subst hw'')
  have hO6 := hO5.out.keeps ((Keeps.refl [] W5).drewN nq)
  have hD6 := (((Keeps.refl [] W5).drewN nq).block D (lt_of_blk hD0.out) (by simp)).trans hD0.out
  have hkB := Lib.hid (hkA.out.drewN nq)
  generalize W5.drewN nq = W6 at *
  have hO := Lib.hid hO6
  have hDc := Lib.hid hD6
  clear hO6 hD6 hO5 hD0 hkA d0 d1 d2 d3 d4 d5 d6 df dl na0 nc0 tm1 tm2
  obtain ⟨d0, d1, d2, d3, d4, d5, d6, df, dl⟩ := cl7 hDc.out
  have hgaD : ga ≠ D := by
    intro e
    obtain ⟨cs, hcs⟩ := hO.out.a.tag ga rfl
    rw [e, hDc.out] at hcs
    cases hcs
  have hgcD : gc ≠ D := by
    intro e
    obtain ⟨cs, hcs⟩ := hO.out.cc.tag gc rfl
    rw [e, hDc.out] at hcs
    cases hcs
  have hwD : w.heap.size ≤ D := by have h1 := hkA0.out; have h2 := hD.out; omega
  have hwg : w.heap.size ≤ ga := by have h1 := hO.out.a.ge ga rfl; have h2 := hk03.out.size; omega
  replace hgaD := Lib.hid hgaD
  replace hgcD := Lib.hid hgcD
  replace hwD := Lib.hid hwD
  replace hwg := Lib.hid hwg
  rcases (by omega : n1 % 5 = 0 ∨ n1 % 5 = 1 ∨ n1 % 5 = 2 ∨ n1 % 5 = 3 ∨ n1 % 5 = 4) with hr5 | hr5 | hr5 | hr5 | hr5
  · have hr : (n1 : Int) % 5 = 0 := by omega
    have hr2 : Int.tmod (n1 : Int) 5 = 0 := by rw [show (5 : Int) = ((5 : Nat) : Int) by rfl, tmod_nat, hr5]; rfl
    replace hr5 := Lib.hid hr5
    have hiX : i < XA.length := by have := eXA.out; omega
    have hic : i < c.an.length := by have := eNA.out; omega
    have hcm : ca ≤ 9223372036854775807 := by unfold maxLen at hcam hccm; omega
    have hw1 : IntKind.i64.wrap ((i : Int) + 1) = (i : Int) + 1 := IntWalk.i64_in _ (by omega)
    have h0i : (0 : Int) ≤ (i : Int) := by omega
    have hile : (i : Int) ≤ (ca : Int) := by omega
    have hi1 : (i : Int) + 1 ≤ (NA : Int) := by omega
    have hi2 : (i : Int) + 1 ≤ (ca : Int) := by omega
    have h0i1 : (0 : Int) ≤ (i : Int) + 1 := by omega
    have hle1 : (i : Int) ≤ (i : Int) + 1 := by omega
    have hT0 := hO.out.a.r
    simp only [slv] at hT0
    have hT1 := (hT0.init i (by omega)).cut
    have hT2 := hT0.tail (i + 1) (by omega)
    rw [eXA.out] at hT2
    have hlenA : ((XA.take i).length + (XA.drop (i + 1)).length) * (72 + 1) ≤ 140737488355328 := by
      have h1 : (XA.take i).length + (XA.drop (i + 1)).length ≤ 1000 := by rw [List.length_take, List.length_drop, eXA.out]; omega
      have h2 := Nat.mul_le_mul_right (72 + 1) h1
      omega
    have hq5 : Hid (∀ j : Nat, j ≠ 12 → (j = 12 ∧ D = D) → False) := Lib.hid (fun j h h2 => h h2.1)
    replace hT1 := Lib.hid hT1
    replace hlenA := Lib.hid hlenA
    clear hT0
    by_cases hcap : ca = i + 1
    · rw [if_pos hcap, show ca - (i + 1) = 0 by omega] at hT2
      replace hT2 := Lib.hid hT2
      go_upto_region 9 with fail
      refine Free.wp_region_chain (fun i => i == 10 || i == 12) (fun i => true) (fun j b => j = 12 ∧ b = D) (by kernel_rfl) (by kernel_rfl) (by kernel_rfl) ?_
      (repeat (first | (apply Free.cw_pure rfl rfl; (intro w'; go_simp <;> exact rfl); go_frame) | (apply Free.cw_steady rfl rfl rfl; (intro w' hS; have q0 := Free.sx_cell hS d5 (fun j hp hT => hq5.out j (fun e => (by subst e; exact absurd hp (by decide +kernel))) hT); go_simp <;> exact rfl); go_frame) | (refine Free.cw_skip rfl ?_; go_frame)))
      refine Free.cw_loud rfl rfl (fun K hK => ?_)
      refine Sh.owp_full shA infoA rfl Try.underlying27 ⟨ga, 0, none⟩ ⟨ga, 0, none⟩ i (NA - (i + 1)) 0 (XA.take i) (XA.drop (i + 1)) (.tmp 60) (.tmp 65) rfl rfl rfl (hT1.out.keeps (Keeps.refl [] W6).drew) (hT2.out.keeps (Keeps.refl [] W6).drew) hlenA.out ?_
      intro v' w' hR hkn hvb
      obtain ⟨za, zc, rfl, -, -, -⟩ := hR.form
      have hlz : (XA.take i ++ XA.drop (i + 1)).length = NA - 1 := by rw [List.length_append, List.length_take, List.length_drop, eXA.out]; omega
      rw [hlz] at hR hvb ⊢
      replace hlz := Lib.hid hlz
      refine hK _ _ rfl (Free.KeepsP.of hkn (by simp)) ?_
      clear hK K
      have hvD : (slv (za, NA - 1, zc)).ownBlock ≠ some D := by
        intro e
        rcases hvb with h | ⟨g2, h, h2⟩
        · exact hgaD.out (by have := h.symm.trans e; simpa using this)
        · have h3 : some g2 = some D := h.symm.trans e
          cases h3
          exact Nat.lt_irrefl _ (Nat.lt_of_lt_of_le dl h2)
      have hDw := (hkn.block D dl (by simp)).trans hDc.out
      have hks : Keeps [D] w' (w'.setCell ⟨D, 5, none⟩ (.slice za (NA - 1) zc)) := (Keeps.refl _ _).setCell (.inr (by simp)) _
      have hW := Lib.hid (hO.out.dropA (i := i) ((Keeps.refl [] W6).drew.trans hkn) hks hDw (v := (za, NA - 1, zc)) hR hvD)
      have hDV : Hid ((w'.setCell ⟨D, 5, none⟩ (.slice za (NA - 1) zc)).heap[D]? = some (.cells #[.int .i64 z0, .int .i64 z1, .int .i64 z2, .int .u64 z3, .int .i64 z4, .slice za (NA - 1) zc, .slice (some ⟨gc, 0, none⟩) NC cc] tCt (0, 0))) := Lib.hid (by simp [World.setCell, Array.getElem?_modify, hDw])
      have hkV := Lib.hid (((hkB.out.trans (Keeps.refl [] W6).drew).trans hkn).fresh hks (fun b hb => by simp only [List.mem_singleton] at hb; subst hb; exact .inr hwD.out))
      have hkF := Lib.hid hks
      have hfe : Hid (({ c with an := c.an.eraseIdx i } : Ct).Few) := Lib.hid (hFew.out.dropAn _)
      have hft : Hid (({ c with an := c.an.eraseIdx i } : Ct).Fit) := Lib.hid (hfit.out.dropAn _)
      have hne : Hid (chk { c with an := c.an.eraseIdx i } ≠ 0) := Lib.hid (spoil_removed hG.out hic)
      clear hR hvb hkn hks hvD hT1 hT2 hlenA d0 d1 d2 d3 d4 d5 d6 df dl
      obtain ⟨d0, d1, d2, d3, d4, d5, d6, df, dl⟩ := cl7 hDw
      replace hDw := Lib.hid hDw
      (repeat (apply Free.cw_pure rfl rfl; (intro w'; go_simp <;> exact rfl); go_frame))
      refine Free.cw_loud rfl rfl (fun K hK => ?_)
      go_wp2
      refine hK _ _ rfl (Free.KeepsP.of hkF.out (fun b hb => ⟨trivial, by simpa using hb⟩)) ?_
      clear hK K
      (repeat (apply Free.cw_pure rfl rfl; (intro w'; go_simp <;> exact rfl); go_frame))
      refine Free.cw_nil ?_
      clear d0 d1 d2 d3 d4 d5 d6 df dl hDw hkF
      go_upto_region 18 with fail
      generalize (w'.setCell ⟨D, 5, none⟩ (.slice za (NA - 1) zc)) = V at *
      obtain ⟨m, hm0, hcall⟩ := checkN_c V _ _ hW.out hft.out hfe.out hne.out
      simp only [ctV, slv] at hcall
      have hmb : (m != 0) = true := by simpa using hm0
      replace hcall := Lib.hid hcall
      replace hm0 := Lib.hid hm0
      obtain ⟨d0, d1, d2, d3, d4, d5, d6, df, dl⟩ := cl7 hDV.out
      go_wp2_with fail
      refine hcall.out.mono ?_
      rintro e v1 ⟨rfl, hk1⟩
      have hkx := Lib.hid (hkV.out.trans hk1)
      clear hk1
      go_wp2_with fail
      refine (awake_c v1).mono ?_
      rintro e v2 ⟨rfl, hk2⟩
      have hkz := Lib.hid (hkx.out.trans hk2)
      go_wp2
      go_ret
      exact ⟨rfl, hkz.out⟩
    · rw [if_neg hcap, Nat.zero_add] at hT2
      have hcap2 : ¬ ((ca : Int) = (i : Int) + 1) := by omega
      replace hT2 := Lib.hid hT2
      go_upto_region 9 with fail
      refine Free.wp_region_chain (fun i => i == 10 || i == 12) (fun i => true) (fun j b => j = 12 ∧ b = D) (by kernel_rfl) (by kernel_rfl) (by kernel_rfl) ?_
      (repeat (first | (apply Free.cw_pure rfl rfl; (intro w'; go_simp <;> exact rfl); go_frame) | (apply Free.cw_steady rfl rfl rfl; (intro w' hS; have q0 := Free.sx_cell hS d5 (fun j hp hT => hq5.out j (fun e => (by subst e; exact absurd hp (by decide +kernel))) hT); go_simp <;> exact rfl); go_frame) | (refine Free.cw_skip rfl ?_; go_frame)))
      refine Free.cw_loud rfl rfl (fun K hK => ?_)
      refine Sh.owp_full shA infoA rfl Try.underlying27 ⟨ga, 0, none⟩ ⟨ga, (i + 1) * 8, none⟩ i (NA - (i + 1)) (ca - (i + 1)) (XA.take i) (XA.drop (i + 1)) (.tmp 60) (.tmp 65) rfl rfl rfl (hT1.out.keeps (Keeps.refl [] W6).drew) (hT2.out.keeps (Keeps.refl [] W6).drew) hlenA.out ?_
      intro v' w' hR hkn hvb
      obtain ⟨za, zc, rfl, -, -, -⟩ := hR.form
      have hlz : (XA.take i ++ XA.drop (i + 1)).length = NA - 1 := by rw [List.length_append, List.length_take, List.length_drop, eXA.out]; omega
      rw [hlz] at hR hvb ⊢
      replace hlz := Lib.hid hlz
      refine hK _ _ rfl (Free.KeepsP.of hkn (by simp)) ?_
      clear hK K
      have hvD : (slv (za, NA - 1, zc)).ownBlock ≠ some D := by
        intro e
        rcases hvb with h | ⟨g2, h, h2⟩
        · exact hgaD.out (by have := h.symm.trans e; simpa using this)
        · have h3 : some g2 = some D := h.symm.trans e
          cases h3
          exact Nat.lt_irrefl _ (Nat.lt_of_lt_of_le dl h2)
      have hDw := (hkn.block D dl (by simp)).trans hDc.out
      have hks : Keeps [D] w' (w'.setCell ⟨D, 5, none⟩ (.slice za (NA - 1) zc)) := (Keeps.refl _ _).setCell (.inr (by simp)) _
      have hW := Lib.hid (hO.out.dropA (i := i) ((Keeps.refl [] W6).drew.trans hkn) hks hDw (v := (za, NA - 1, zc)) hR hvD)
      have hDV : Hid ((w'.setCell ⟨D, 5, none⟩ (.slice za (NA - 1) zc)).heap[D]? = some (.cells #[.int .i64 z0, .int .i64 z1, .int .i64 z2, .int .u64 z3, .int .i64 z4, .slice za (NA - 1) zc, .slice (some ⟨gc, 0, none⟩) NC cc] tCt (0, 0))) := Lib.hid (by simp [World.setCell, Array.getElem?_modify, hDw])
      have hkV := Lib.hid (((hkB.out.trans (Keeps.refl [] W6).drew).trans hkn).fresh hks (fun b hb => by simp only [List.mem_singleton] at hb; subst hb; exact .inr hwD.out))
      have hkF := Lib.hid hks
      have hfe : Hid (({ c with an := c.an.eraseIdx i } : Ct).Few) := Lib.hid (hFew.out.dropAn _)
      have hft : Hid (({ c with an := c.an.eraseIdx i } : Ct).Fit) := Lib.hid (hfit.out.dropAn _)
      have hne : Hid (chk { c with an := c.an.eraseIdx i } ≠ 0) := Lib.hid (spoil_removed hG.out hic)
      clear hR hvb hkn hks hvD hT1 hT2 hlenA d0 d1 d2 d3 d4 d5 d6 df dl
      obtain ⟨d0, d1, d2, d3, d4, d5, d6, df, dl⟩ := cl7 hDw
      replace hDw := Lib.hid hDw
      (repeat (apply Free.cw_pure rfl rfl; (intro w'; go_simp <;> exact rfl); go_frame))
      refine Free.cw_loud rfl rfl (fun K hK => ?_)
      go_wp2
      refine hK _ _ rfl (Free.KeepsP.of hkF.out (fun b hb => ⟨trivial, by simpa using hb⟩)) ?_
      clear hK K
      (repeat (apply Free.cw_pure rfl rfl; (intro w'; go_simp <;> exact rfl); go_frame))
      refine Free.cw_nil ?_
      clear d0 d1 d2 d3 d4 d5 d6 df dl hDw hkF
      go_upto_region 18 with fail
      generalize (w'.setCell ⟨D, 5, none⟩ (.slice za (NA - 1) zc)) = V at *
      obtain ⟨m, hm0, hcall⟩ := checkN_c V _ _ hW.out hft.out hfe.out hne.out
      simp only [ctV, slv] at hcall
      have hmb : (m != 0) = true := by simpa using hm0
      replace hcall := Lib.hid hcall
      replace hm0 := Lib.hid hm0
      obtain ⟨d0, d1, d2, d3, d4, d5, d6, df, dl⟩ := cl7 hDV.out
      go_wp2_with fail
      refine hcall.out.mono ?_
      rintro e v1 ⟨rfl, hk1⟩
      have hkx := Lib.hid (hkV.out.trans hk1)
      clear hk1
      go_wp2_with fail
      refine (awake_c v1).mono ?_
      rintro e v2 ⟨rfl, hk2⟩
      have hkz := Lib.hid (hkx.out.trans hk2)
      go_wp2
      go_ret
      exact ⟨rfl, hkz.out⟩
  · have hr : (n1 : Int) % 5 = 1 := by omega
    have hr2 : Int.tmod (n1 : Int) 5 = 1 := by rw [show (5 : Int) = ((5 : Nat) : Int) by rfl, tmod_nat, hr5]; rfl
    replace hr5 := Lib.hid hr5
    have hiX : i < XA.length := by have := eXA.out; omega
    have hic : i < c.an.length := by have := eNA.out; omega
    have hiN : (i : Int) < NA := by omega
    obtain ⟨cs, hcs⟩ := hO.out.a.tag ga rfl
    have hfz : ∀ o, W6.frozen? ⟨ga, o, none⟩ = false := fun o => by simp [World.frozen?, hcs]
    obtain ⟨y, hy⟩ : ∃ y, XA[i] = y := ⟨_, rfl⟩
    obtain ⟨a, ha⟩ : ∃ a, c.an[i] = a := ⟨_, rfl⟩
    have hInA := hO.out.la.2 i y a (by rw [List.getElem?_eq_getElem hiX, hy]) (by rw [List.getElem?_eq_getElem hic, ha])
    obtain ⟨g', o', c'', ev, hel⟩ := hO.out.a.r.elem hiX
    rw [eXA.out] at ev
    simp only [slv, Value.slice.injEq, Option.some.injEq, Addr.mk.injEq, and_true, true_and] at ev
    obtain ⟨⟨rfl, rfl⟩, rfl⟩ := ev
    rw [hy] at hel
    obtain ⟨y0, y1, y2, y3, y4, y5, y6, y7, y8, y9⟩ := y
    have e3 := hel 3 _ rfl
    have e4 := hel 4 _ rfl
    have e5 := hel 5 _ rfl
    simp only [shA, Nat.zero_add] at e3 e4 e5
    have hset := hO.out.a.set hiX ⟨y0, y1, y2, y3, y4, true, y6, y7, y8, y9⟩ 5 (.bool true) (by rw [hy]; rfl) (by decide) rfl
    have hks : Keeps [ga] W6 (W6.setCell ⟨ga, i * 8 + 5, none⟩ (.bool true)) := (Keeps.refl _ _).setCell (.inr (by simp)) _
    have hW0 := hO.out.setAn hic hks (fun b hb => by simp only [List.mem_singleton] at hb; subst hb; rfl) hset (y := ⟨y0, y1, y2, y3, y4, true, y6, y7, y8, y9⟩) (a := { a with rt := true }) ⟨hInA.m, hInA.ow, hInA.n, hInA.ep, hInA.kn, rfl, hInA.lu, hInA.ins⟩
    have hW := Lib.hid hW0
    have hDV := Lib.hid ((hks.block D dl (by simpa using hgaD.out.symm)).trans hDc.out)
    have hkV := Lib.hid (hkB.out.fresh hks (fun b hb => by simp only [List.mem_singleton] at hb; subst hb; exact .inr hwg.out))
    have haf := hfit.out.an a (by rw [← ha]; exact List.getElem_mem hic)
    have hal := hFew.out.ins a (by rw [← ha]; exact List.getElem_mem hic)
    have hfe : Hid (({ c with an := c.an.set i { a with rt := true } } : Ct).Few) := Lib.hid (hFew.out.setAn hal)
    have hft : Hid (({ c with an := c.an.set i { a with rt := true } } : Ct).Fit) := Lib.hid (hfit.out.setAn ⟨haf.q, haf.ep, haf.lu, haf.ins⟩)
    have hne : Hid (chk { c with an := c.an.set i { a with rt := true } } ≠ 0) := Lib.hid (by have := spoil_rooted hic; rw [ha] at this; exact this)
    clear hset hks hW0 hInA haf hal
    replace hy := Lib.hid hy
    replace ha := Lib.hid ha
    go_upto_region 18 with fail
    clear d0 d1 d2 d3 d4 d5 d6 df dl
    generalize (W6.setCell ⟨ga, i * 8 + 5, none⟩ (.bool true)) = V at *
    obtain ⟨m, hm0, hcall⟩ := checkN_c V _ _ hW.out hft.out hfe.out hne.out
    simp only [ctV, slv] at hcall
    have hmb : (m != 0) = true := by simpa using hm0
    replace hcall := Lib.hid hcall
    replace hm0 := Lib.hid hm0
    obtain ⟨d0, d1, d2, d3, d4, d5, d6, df, dl⟩ := cl7 hDV.out
    go_wp2_with fail
    refine hcall.out.mono ?_
    rintro e v1 ⟨rfl, hk1⟩
    have hkx := Lib.hid (hkV.out.trans hk1)
    clear hk1
    go_wp2_with fail
    refine (awake_c v1).mono ?_
    rintro e v2 ⟨rfl, hk2⟩
    have hkz := Lib.hid (hkx.out.trans hk2)
    go_wp2
    go_ret
    exact ⟨rfl, hkz.out⟩
  · have hr : (n1 : Int) % 5 = 2 := by omega
    have hr2 : Int.tmod (n1 : Int) 5 = 2 := by rw [show (5 : Int) = ((5 : Nat) : Int) by rfl, tmod_nat, hr5]; rfl
    replace hr5 := Lib.hid hr5
    have hiX : i < XA.length := by have := eXA.out; omega
    have hic : i < c.an.length := by have := eNA.out; omega
    have hiN : (i : Int) < NA := by omega
    obtain ⟨cs, hcs⟩ := hO.out.a.tag ga rfl
    have hfz : ∀ o, W6.frozen? ⟨ga, o, none⟩ = false := fun o => by simp [World.frozen?, hcs]
    obtain ⟨y, hy⟩ : ∃ y, XA[i] = y := ⟨_, rfl⟩
    obtain ⟨a, ha⟩ : ∃ a, c.an[i] = a := ⟨_, rfl⟩
    have hInA := hO.out.la.2 i y a (by rw [List.getElem?_eq_getElem hiX, hy]) (by rw [List.getElem?_eq_getElem hic, ha])
    obtain ⟨g', o', c'', ev, hel⟩ := hO.out.a.r.elem hiX
    rw [eXA.out] at ev
    simp only [slv, Value.slice.injEq, Option.some.injEq, Addr.mk.injEq, and_true, true_and] at ev
    obtain ⟨⟨rfl, rfl⟩, rfl⟩ := ev
    rw [hy] at hel
    obtain ⟨y0, y1, y2, y3, y4, y5, y6, y7, y8, y9⟩ := y
    have e3 := hel 3 _ rfl
    have e4 := hel 4 _ rfl
    have e5 := hel 5 _ rfl
    simp only [shA, Nat.zero_add] at e3 e4 e5
    have hset := hO.out.a.set hiX ⟨y0, y1, y2, y3, false, y5, y6, y7, y8, y9⟩ 4 (.bool false) (by rw [hy]; rfl) (by decide) rfl
    have hks : Keeps [ga] W6 (W6.setCell ⟨ga, i * 8 + 4, none⟩ (.bool false)) := (Keeps.refl _ _).setCell (.inr (by simp)) _
    have hW0 := hO.out.setAn hic hks (fun b hb => by simp only [List.mem_singleton] at hb; subst hb; rfl) hset (y := ⟨y0, y1, y2, y3, false, y5, y6, y7, y8, y9⟩) (a := { a with kn := false }) ⟨hInA.m, hInA.ow, hInA.n, hInA.ep, rfl, hInA.rt, hInA.lu, hInA.ins⟩
    have hW := Lib.hid hW0
    have hDV := Lib.hid ((hks.block D dl (by simpa using hgaD.out.symm)).trans hDc.out)
    have hkV := Lib.hid (hkB.out.fresh hks (fun b hb => by simp only [List.mem_singleton] at hb; subst hb; exact .inr hwg.out))
    have haf := hfit.out.an a (by rw [← ha]; exact List.getElem_mem hic)
    have hal := hFew.out.ins a (by rw [← ha]; exact List.getElem_mem hic)
    have hfe : Hid (({ c with an := c.an.set i { a with kn := false } } : Ct).Few) := Lib.hid (hFew.out.setAn hal)
    have hft : Hid (({ c with an := c.an.set i { a with kn := false } } : Ct).Fit) := Lib.hid (hfit.out.setAn ⟨haf.q, haf.ep, haf.lu, haf.ins⟩)
    have hne : Hid (chk { c with an := c.an.set i { a with kn := false } } ≠ 0) := Lib.hid (by have := spoil_unknown hic; rw [ha] at this; exact this)
    clear hset hks hW0 hInA haf hal
    replace hy := Lib.hid hy
    replace ha := Lib.hid ha
    go_upto_region 18 with fail
    clear d0 d1 d2 d3 d4 d5 d6 df dl
    generalize (W6.setCell ⟨ga, i * 8 + 4, none⟩ (.bool false)) = V at *
    obtain ⟨m, hm0, hcall⟩ := checkN_c V _ _ hW.out hft.out hfe.out hne.out
    simp only [ctV, slv] at hcall
    have hmb : (m != 0) = true := by simpa using hm0
    replace hcall := Lib.hid hcall
    replace hm0 := Lib.hid hm0
    obtain ⟨d0, d1, d2, d3, d4, d5, d6, df, dl⟩ := cl7 hDV.out
    go_wp2_with fail
    refine hcall.out.mono ?_
    rintro e v1 ⟨rfl, hk1⟩
    have hkx := Lib.hid (hkV.out.trans hk1)
    clear hk1
    go_wp2_with fail
    refine (awake_c v1).mono ?_
    rintro e v2 ⟨rfl, hk2⟩
    have hkz := Lib.hid (hkx.out.trans hk2)
    go_wp2
    go_ret
    exact ⟨rfl, hkz.out⟩
  · have hr : (n1 : Int) % 5 = 3 := by omega
    have hr2 : Int.tmod (n1 : Int) 5 = 3 := by rw [show (5 : Int) = ((5 : Nat) : Int) by rfl, tmod_nat, hr5]; rfl
    replace hr5 := Lib.hid hr5
    have hiX : i < XA.length := by have := eXA.out; omega
    have hic : i < c.an.length := by have := eNA.out; omega
    have hiN : (i : Int) < NA := by omega
    obtain ⟨cs, hcs⟩ := hO.out.a.tag ga rfl
    have hfz : ∀ o, W6.frozen? ⟨ga, o, none⟩ = false := fun o => by simp [World.frozen?, hcs]
    obtain ⟨y, hy⟩ : ∃ y, XA[i] = y := ⟨_, rfl⟩
    obtain ⟨a, ha⟩ : ∃ a, c.an[i] = a := ⟨_, rfl⟩
    have hInA := hO.out.la.2 i y a (by rw [List.getElem?_eq_getElem hiX, hy]) (by rw [List.getElem?_eq_getElem hic, ha])
    obtain ⟨g', o', c'', ev, hel⟩ := hO.out.a.r.elem hiX
    rw [eXA.out] at ev
    simp only [slv, Value.slice.injEq, Option.some.injEq, Addr.mk.injEq, and_true, true_and] at ev
    obtain ⟨⟨rfl, rfl⟩, rfl⟩ := ev
    rw [hy] at hel
    obtain ⟨y0, y1, y2, y3, y4, y5, y6, y7, y8, y9⟩ := y
    have e3 := hel 3 _ rfl
    have e4 := hel 4 _ rfl
    have e5 := hel 5 _ rfl
    simp only [shA, Nat.zero_add] at e3 e4 e5
    have hset := hO.out.a.set hiX ⟨y0, y1, y2, wrap64 (y3 + 1), y4, y5, y6, y7, y8, y9⟩ 3 (.int .i64 (wrap64 (y3 + 1))) (by rw [hy]; rfl) (by decide) rfl
    have hks : Keeps [ga] W6 (W6.setCell ⟨ga, i * 8 + 3, none⟩ (.int .i64 (wrap64 (y3 + 1)))) := (Keeps.refl _ _).setCell (.inr (by simp)) _
    have hW0 := hO.out.setAn hic hks (fun b hb => by simp only [List.mem_singleton] at hb; subst hb; rfl) hset (y := ⟨y0, y1, y2, wrap64 (y3 + 1), y4, y5, y6, y7, y8, y9⟩) (a := { a with ep := wrap64 (y3 + 1) }) ⟨hInA.m, hInA.ow, hInA.n, rfl, hInA.kn, hInA.rt, hInA.lu, hInA.ins⟩
    have hW := Lib.hid hW0
    have hDV := Lib.hid ((hks.block D dl (by simpa using hgaD.out.symm)).trans hDc.out)
    have hkV := Lib.hid (hkB.out.fresh hks (fun b hb => by simp only [List.mem_singleton] at hb; subst hb; exact .inr hwg.out))
    have haf := hfit.out.an a (by rw [← ha]; exact List.getElem_mem hic)
    have hal := hFew.out.ins a (by rw [← ha]; exact List.getElem_mem hic)
    have hfe : Hid (({ c with an := c.an.set i { a with ep := wrap64 (y3 + 1) } } : Ct).Few) := Lib.hid (hFew.out.setAn hal)
    have hft : Hid (({ c with an := c.an.set i { a with ep := wrap64 (y3 + 1) } } : Ct).Fit) := Lib.hid (hfit.out.setAn ⟨haf.q, w64_wrap _, haf.lu, haf.ins⟩)
    have hne : Hid (chk { c with an := c.an.set i { a with ep := wrap64 (y3 + 1) } } ≠ 0) := Lib.hid (by have := spoil_epoch hG.out hic (z := wrap64 (y3 + 1)) (by rw [ha, ← hInA.ep]; exact wrap_ne y3); rw [ha] at this; exact this)
    clear hset hks hW0 hInA haf hal
    replace hy := Lib.hid hy
    replace ha := Lib.hid ha
    go_upto_region 18 with fail
    clear d0 d1 d2 d3 d4 d5 d6 df dl
    generalize (W6.setCell ⟨ga, i * 8 + 3, none⟩ (.int .i64 (wrap64 (y3 + 1)))) = V at *
    obtain ⟨m, hm0, hcall⟩ := checkN_c V _ _ hW.out hft.out hfe.out hne.out
    simp only [ctV, slv] at hcall
    have hmb : (m != 0) = true := by simpa using hm0
    replace hcall := Lib.hid hcall
    replace hm0 := Lib.hid hm0
    obtain ⟨d0, d1, d2, d3, d4, d5, d6, df, dl⟩ := cl7 hDV.out
    go_wp2_with fail
    refine hcall.out.mono ?_
    rintro e v1 ⟨rfl, hk1⟩
    have hkx := Lib.hid (hkV.out.trans hk1)
    clear hk1
    go_wp2_with fail
    refine (awake_c v1).mono ?_
    rintro e v2 ⟨rfl, hk2⟩
    have hkz := Lib.hid (hkx.out.trans hk2)
    go_wp2
    go_ret
    exact ⟨rfl, hkz.out⟩
  · have hr : (n1 : Int) % 5 = 4 := by omega
    have hr2 : Int.tmod (n1 : Int) 5 = 4 := by rw [show (5 : Int) = ((5 : Nat) : Int) by rfl, tmod_nat, hr5]; rfl
    replace hr5 := Lib.hid hr5
    have hiX : k < XC.length := by have := eXC.out; omega
    have hkc : k < c.cl.length := by have := eNC.out; omega
    have hcm : cc ≤ 9223372036854775807 := by unfold maxLen at hcam hccm; omega
    have hw1 : IntKind.i64.wrap ((k : Int) + 1) = (k : Int) + 1 := IntWalk.i64_in _ (by omega)
    have h0i : (0 : Int) ≤ (k : Int) := by omega
    have hile : (k : Int) ≤ (cc : Int) := by omega
    have hi1 : (k : Int) + 1 ≤ (NC : Int) := by omega
    have hi2 : (k : Int) + 1 ≤ (cc : Int) := by omega
    have h0i1 : (0 : Int) ≤ (k : Int) + 1 := by omega
    have hle1 : (k : Int) ≤ (k : Int) + 1 := by omega
    have hT0 := hO.out.cc.r
    simp only [slv] at hT0
    have hT1 := (hT0.init k (by omega)).cut
    have hT2 := hT0.tail (k + 1) (by omega)
    rw [eXC.out] at hT2
    have hlenA : ((XC.take k).length + (XC.drop (k + 1)).length) * (88 + 1) ≤ 140737488355328 := by
      have h1 : (XC.take k).length + (XC.drop (k + 1)).length ≤ 1000 := by rw [List.length_take, List.length_drop, eXC.out]; omega
      have h2 := Nat.mul_le_mul_right (88 + 1) h1
      omega
    have hq5 : Hid (∀ j : Nat, j ≠ 12 → (j = 12 ∧ D = D) → False) := Lib.hid (fun j h h2 => h h2.1)
    replace hT1 := Lib.hid hT1
    replace hlenA := Lib.hid hlenA
    clear hT0
    by_cases hcap : cc = k + 1
    · rw [if_pos hcap, show cc - (k + 1) = 0 by omega] at hT2
      replace hT2 := Lib.hid hT2
      go_upto_region 17 with fail
      refine Free.wp_region_chain (fun i => i == 10 || i == 12) (fun i => true) (fun j b => j = 12 ∧ b = D) (by kernel_rfl) (by kernel_rfl) (by kernel_rfl) ?_
      (repeat (first | (apply Free.cw_pure rfl rfl; (intro w'; go_simp <;> exact rfl); go_frame) | (apply Free.cw_steady rfl rfl rfl; (intro w' hS; have q0 := Free.sx_cell hS d6 (fun j hp hT => hq5.out j (fun e => (by subst e; exact absurd hp (by decide +kernel))) hT); go_simp <;> exact rfl); go_frame) | (refine Free.cw_skip rfl ?_; go_frame)))
      refine Free.cw_loud rfl rfl (fun K hK => ?_)
      refine Sh.owp_full shC infoC rfl Try.underlying28 ⟨gc, 0, none⟩ ⟨gc, 0, none⟩ k (NC - (k + 1)) 0 (XC.take k) (XC.drop (k + 1)) (.tmp 99) (.tmp 104) rfl rfl rfl (hT1.out.keeps (Keeps.refl [] W6).drew) (hT2.out.keeps (Keeps.refl [] W6).drew) hlenA.out ?_
      intro v' w' hR hkn hvb
      obtain ⟨za, zc, rfl, -, -, -⟩ := hR.form
      have hlz : (XC.take k ++ XC.drop (k + 1)).length = NC - 1 := by rw [List.length_append, List.length_take, List.length_drop, eXC.out]; omega
      rw [hlz] at hR hvb ⊢
      replace hlz := Lib.hid hlz
      refine hK _ _ rfl (Free.KeepsP.of hkn (by simp)) ?_
      clear hK K
      have hvD : (slv (za, NC - 1, zc)).ownBlock ≠ some D := by
        intro e
        rcases hvb with h | ⟨g2, h, h2⟩
        · exact hgcD.out (by have := h.symm.trans e; simpa using this)
        · have h3 : some g2 = some D := h.symm.trans e
          cases h3
          exact Nat.lt_irrefl _ (Nat.lt_of_lt_of_le dl h2)
      have hDw := (hkn.block D dl (by simp)).trans hDc.out
      have hks : Keeps [D] w' (w'.setCell ⟨D, 6, none⟩ (.slice za (NC - 1) zc)) := (Keeps.refl _ _).setCell (.inr (by simp)) _
      have hW := Lib.hid (hO.out.dropC (i := k) ((Keeps.refl [] W6).drew.trans hkn) hks hDw (v := (za, NC - 1, zc)) hR hvD)
      have hDV : Hid ((w'.setCell ⟨D, 6, none⟩ (.slice za (NC - 1) zc)).heap[D]? = some (.cells #[.int .i64 z0, .int .i64 z1, .int .i64 z2, .int .u64 z3, .int .i64 z4, .slice (some ⟨ga, 0, none⟩) NA ca, .slice za (NC - 1) zc] tCt (0, 0))) := Lib.hid (by simp [World.setCell, Array.getElem?_modify, hDw])
      have hkV := Lib.hid (((hkB.out.trans (Keeps.refl [] W6).drew).trans hkn).fresh hks (fun b hb => by simp only [List.mem_singleton] at hb; subst hb; exact .inr hwD.out))
      have hkF := Lib.hid hks
      have hfe : Hid (({ c with cl := c.cl.eraseIdx k } : Ct).Few) := Lib.hid (hFew.out.dropCl _)
      have hft : Hid (({ c with cl := c.cl.eraseIdx k } : Ct).Fit) := Lib.hid (hfit.out.dropCl _)
      have hne : Hid (chk { c with cl := c.cl.eraseIdx k } ≠ 0) := Lib.hid (spoil_claim hG.out hkc)
      clear hR hvb hkn hks hvD hT1 hT2 hlenA d0 d1 d2 d3 d4 d5 d6 df dl
      obtain ⟨d0, d1, d2, d3, d4, d5, d6, df, dl⟩ := cl7 hDw
      replace hDw := Lib.hid hDw
      (repeat (apply Free.cw_pure rfl rfl; (intro w'; go_simp <;> exact rfl); go_frame))
      refine Free.cw_loud rfl rfl (fun K hK => ?_)
      go_wp2
      refine hK _ _ rfl (Free.KeepsP.of hkF.out (fun b hb => ⟨trivial, by simpa using hb⟩)) ?_
      clear hK K
      (repeat (apply Free.cw_pure rfl rfl; (intro w'; go_simp <;> exact rfl); go_frame))
      refine Free.cw_nil ?_
      clear d0 d1 d2 d3 d4 d5 d6 df dl hDw hkF
      go_upto_region 18 with fail
      generalize (w'.setCell ⟨D, 6, none⟩ (.slice za (NC - 1) zc)) = V at *
      obtain ⟨m, hm0, hcall⟩ := checkN_c V _ _ hW.out hft.out hfe.out hne.out
      simp only [ctV, slv] at hcall
      have hmb : (m != 0) = true := by simpa using hm0
      replace hcall := Lib.hid hcall
      replace hm0 := Lib.hid hm0
      obtain ⟨d0, d1, d2, d3, d4, d5, d6, df, dl⟩ := cl7 hDV.out
      go_wp2_with fail
      refine hcall.out.mono ?_
      rintro e v1 ⟨rfl, hk1⟩
      have hkx := Lib.hid (hkV.out.trans hk1)
      clear hk1
      go_wp2_with fail
      refine (awake_c v1).mono ?_
      rintro e v2 ⟨rfl, hk2⟩
      have hkz := Lib.hid (hkx.out.trans hk2)
      go_wp2
      go_ret
      exact ⟨rfl, hkz.out⟩
    · rw [if_neg hcap, Nat.zero_add] at hT2
      have hcap2 : ¬ ((cc : Int) = (k : Int) + 1) := by omega
      replace hT2 := Lib.hid hT2
      go_upto_region 17 with fail
      refine Free.wp_region_chain (fun i => i == 10 || i == 12) (fun i => true) (fun j b => j = 12 ∧ b = D) (by kernel_rfl) (by kernel_rfl) (by kernel_rfl) ?_
      (repeat (first | (apply Free.cw_pure rfl rfl; (intro w'; go_simp <;> exact rfl); go_frame) | (apply Free.cw_steady rfl rfl rfl; (intro w' hS; have q0 := Free.sx_cell hS d6 (fun j hp hT => hq5.out j (fun e => (by subst e; exact absurd hp (by decide +kernel))) hT); go_simp <;> exact rfl); go_frame) | (refine Free.cw_skip rfl ?_; go_frame)))
      refine Free.cw_loud rfl rfl (fun K hK => ?_)
      refine Sh.owp_full shC infoC rfl Try.underlying28 ⟨gc, 0, none⟩ ⟨gc, (k + 1) * 5, none⟩ k (NC - (k + 1)) (cc - (k + 1)) (XC.take k) (XC.drop (k + 1)) (.tmp 99) (.tmp 104) rfl rfl rfl (hT1.out.keeps (Keeps.refl [] W6).drew) (hT2.out.keeps (Keeps.refl [] W6).drew) hlenA.out ?_
      intro v' w' hR hkn hvb
      obtain ⟨za, zc, rfl, -, -, -⟩ := hR.form
      have hlz : (XC.take k ++ XC.drop (k + 1)).length = NC - 1 := by rw [List.length_append, List.length_take, List.length_drop, eXC.out]; omega
      rw [hlz] at hR hvb ⊢
      replace hlz := Lib.hid hlz
      refine hK _ _ rfl (Free.KeepsP.of hkn (by simp)) ?_
      clear hK K
      have hvD : (slv (za, NC - 1, zc)).ownBlock ≠ some D := by
        intro e
        rcases hvb with h | ⟨g2, h, h2⟩
        · exact hgcD.out (by have := h.symm.trans e; simpa using this)
        · have h3 : some g2 = some D := h.symm.trans e
          cases h3
          exact Nat.lt_irrefl _ (Nat.lt_of_lt_of_le dl h2)
      have hDw := (hkn.block D dl (by simp)).trans hDc.out
      have hks : Keeps [D] w' (w'.setCell ⟨D, 6, none⟩ (.slice za (NC - 1) zc)) := (Keeps.refl _ _).setCell (.inr (by simp)) _
      have hW := Lib.hid (hO.out.dropC (i := k) ((Keeps.refl [] W6).drew.trans hkn) hks hDw (v := (za, NC - 1, zc)) hR hvD)
      have hDV : Hid ((w'.setCell ⟨D, 6, none⟩ (.slice za (NC - 1) zc)).heap[D]? = some (.cells #[.int .i64 z0, .int .i64 z1, .int .i64 z2, .int .u64 z3, .int .i64 z4, .slice (some ⟨ga, 0, none⟩) NA ca, .slice za (NC - 1) zc] tCt (0, 0))) := Lib.hid (by simp [World.setCell, Array.getElem?_modify, hDw])
      have hkV := Lib.hid (((hkB.out.trans (Keeps.refl [] W6).drew).trans hkn).fresh hks (fun b hb => by simp only [List.mem_singleton] at hb; subst hb; exact .inr hwD.out))
      have hkF := Lib.hid hks
      have hfe : Hid (({ c with cl := c.cl.eraseIdx k } : Ct).Few) := Lib.hid (hFew.out.dropCl _)
      have hft : Hid (({ c with cl := c.cl.eraseIdx k } : Ct).Fit) := Lib.hid (hfit.out.dropCl _)
      have hne : Hid (chk { c with cl := c.cl.eraseIdx k } ≠ 0) := Lib.hid (spoil_claim hG.out hkc)
      clear hR hvb hkn hks hvD hT1 hT2 hlenA d0 d1 d2 d3 d4 d5 d6 df dl
      obtain ⟨d0, d1, d2, d3, d4, d5, d6, df, dl⟩ := cl7 hDw
      replace hDw := Lib.hid hDw
      (repeat (apply Free.cw_pure rfl rfl; (intro w'; go_simp <;> exact rfl); go_frame))
      refine Free.cw_loud rfl rfl (fun K hK => ?_)
      go_wp2
      refine hK _ _ rfl (Free.KeepsP.of hkF.out (fun b hb => ⟨trivial, by simpa using hb⟩)) ?_
      clear hK K
      (repeat (apply Free.cw_pure rfl rfl; (intro w'; go_simp <;> exact rfl); go_frame))
      refine Free.cw_nil ?_
      clear d0 d1 d2 d3 d4 d5 d6 df dl hDw hkF
      go_upto_region 18 with fail
      generalize (w'.setCell ⟨D, 6, none⟩ (.slice za (NC - 1) zc)) = V at *
      obtain ⟨m, hm0, hcall⟩ := checkN_c V _ _ hW.out hft.out hfe.out hne.out
      simp only [ctV, slv] at hcall
      have hmb : (m != 0) = true := by simpa using hm0
      replace hcall := Lib.hid hcall
      replace hm0 := Lib.hid hm0
      obtain ⟨d0, d1, d2, d3, d4, d5, d6, df, dl⟩ := cl7 hDV.out
      go_wp2_with fail
      refine hcall.out.mono ?_
      rintro e v1 ⟨rfl, hk1⟩
      have hkx := Lib.hid (hkV.out.trans hk1)
      clear hk1
      go_wp2_with fail
      refine (awake_c v1).mono ?_
      rintro e v2 ⟨rfl, hk2⟩
      have hkz := Lib.hid (hkx.out.trans hk2)
      go_wp2
      go_ret
      exact ⟨rfl, hkz.out⟩
theorem u8_nat {x : Int} (h : (Lit.int .u8 x).wf = true) : ∃ n : Nat, x = n ∧ n < 256 := by
  have hb : 0 ≤ x ∧ x ≤ 255 := by simpa [Lit.wf, IntKind.min, IntKind.max, IntKind.signed, IntKind.bits] using h
  exact ⟨x.toNat, by omega, by omega⟩
end Go.Proofs.Ytiplgpefapeapaa
