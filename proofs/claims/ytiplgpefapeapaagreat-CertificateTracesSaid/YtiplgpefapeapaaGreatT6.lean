/- Texts that the laws lean on, in the order in which they build. The claims that follow from answers, as certificate.claims gathers them (plain). What the specification's Check computes is chk. The digits of a number to the base 256, and its encoding on the wire. No program. (XWire, of a program without bytes.Clone.) The contracts of package wire's writers of bytes. AppendBool; what the growth of a buffer leaves, draws between. The cells of a block; blocks made one after the other. The byte form of a trace: the buffer in its variable; the closure that appends integers. The contracts of package wire's reader of bytes. The closure that reads a number, where it fails. The closure that reads a number, where it succeeds. The contracts of package wire's reader of numbers, and the reference's. wire's reader in whatever state: Uint, Bool. wire's reader: Count with whatever bound. The reader: Int, Count in whatever state; bytes.Equal. The byte form of a trace (plain), and what appending leaves. Trace.pending. Trace.Agree. What Decode gives: plain. The comparisons of package certificate; the sort of needs. (Printed by mkctc.py.) -/
import Derived.Test.YtiplgpefapeapaaGreatT5
import Derived.Test.YtiplgpefapeapaaGreatRows
set_option linter.unusedVariables false
set_option linter.unusedSimpArgs false
namespace Go.Proofs.YtiplgpefapeapaaGreat
open Go.RowKit

def strip (a : Ans) : Ans := { a with ins := [] }
def stepB (O : List (Qn × Int)) (P : List PCl) (a : Ans) : List PCl := needC O (openC P a) a
/-- The claims without their scions. -/
def basC (O : List (Qn × Int)) (Y : List Ans) : List PCl := Y.foldl (stepB O) []
def basOf (O : List (Qn × Int)) (Y : List Ans) (m : Int) : PCl := ⟨m, epOf Y m, stOf O Y m, [], chOf O Y m⟩
theorem strip_srt {Y : List Ans} (h : SrtA Y) : SrtA (Y.map strip) := by unfold SrtA; rw [List.pairwise_map]; exact h
theorem ms_strip (Y : List Ans) : msOf (Y.map strip) = msOf Y := by unfold msOf; rw [List.foldl_map]; rfl
theorem basC_strip (O : List (Qn × Int)) (Y : List Ans) : basC O Y = rawOf (trOf []) O (Y.map strip) := by
  unfold basC rawOf
  rw [List.foldl_map]
  rfl
theorem sc_strip (t : Tr) (m : Int) : ∀ (Y : List Ans) (l : List T3), (Y.map strip).foldl (scA t m) l = l
  | [], _ => rfl
  | a :: Y, l => by
    rw [List.map_cons, List.foldl_cons]
    have : scA t m l (strip a) = l := by unfold scA strip; split <;> rfl
    rw [this]
    exact sc_strip t m Y l
theorem basC_eq {O : List (Qn × Int)} {Y : List Ans} (hs : SrtA Y) : basC O Y = (msOf Y).map (basOf O Y) := by
  rw [basC_strip, (rawOf_eq (trOf []) O (Y.map strip) (strip_srt hs)).1, ms_strip]
  refine List.map_congr_left (fun m _ => ?_)
  unfold clOf basOf
  have e1 : epOf (Y.map strip) m = epOf Y m := by
    unfold epOf
    rw [List.find?_map, Option.map_map]
    rfl
  have e2 : stOf O (Y.map strip) m = stOf O Y m := by unfold stOf; rw [List.filterMap_map]; rfl
  have e3 : chOf O (Y.map strip) m = chOf O Y m := by unfold chOf; rw [List.filterMap_map]; rfl
  have e4 : scOf (trOf []) (Y.map strip) m = [] := sc_strip _ m Y []
  rw [e1, e2, e3, e4]
theorem basC_ms {O : List (Qn × Int)} {Y : List Ans} (hs : SrtA Y) : (basC O Y).map PCl.m = msOf Y := by
  rw [basC_eq hs, List.map_map]
  have : (PCl.m ∘ basOf O Y) = id := rfl
  rw [this, List.map_id]
theorem ms_srt {Y : List Ans} (hs : SrtA Y) : (msOf Y).Pairwise (· < ·) ∧ ∀ m, m ∈ msOf Y ↔ ∃ a ∈ Y, a.m = m := (rawOf_eq (trOf []) [] Y hs).2
theorem basC_take (O : List (Qn × Int)) (Y : List Ans) (k : Nat) (hk : k < Y.length) : basC O (Y.take (k + 1)) = stepB O (basC O (Y.take k)) Y[k] := foldl_succ _ _ _ _ hk
/-- What the next answer finds. -/
theorem basC_next {O : List (Qn × Int)} {Z : List Ans} {a : Ans} (hs : SrtA (Z ++ [a])) :
    (∃ n, (basC O Z).length = n + 1 ∧ (∃ h : n < (basC O Z).length, ((basC O Z)[n]'h).m = a.m) ∧ openC (basC O Z) a = basC O Z) ∨
    ((∀ p ∈ basC O Z, p.m ≠ a.m) ∧ openC (basC O Z) a = basC O Z ++ [⟨a.m, a.ep, [], [], []⟩]) := by
  obtain ⟨hs1, _, hs2⟩ := List.pairwise_append.1 hs
  have hle : ∀ b ∈ Z, b.m ≤ a.m := fun b hb => by have := hs2 b hb a (by simp); unfold qlt Ans.q at this; simp only at this; omega
  obtain ⟨i2, i3⟩ := ms_srt hs1
  have hm := basC_ms (O := O) hs1
  generalize basC O Z = P at *
  rcases nil_or_snoc P with h | ⟨R, c, h⟩
  · subst h
    exact .inr ⟨by simp, rfl⟩
  · subst h
    have hc : c.m ∈ msOf Z := by rw [← hm]; simp
    obtain ⟨b, hb, hbc⟩ := (i3 c.m).1 hc
    rw [openC_snoc]
    by_cases e : c.m = a.m
    · refine .inl ⟨R.length, by simp, ⟨by simp, by simp [e]⟩, by rw [if_pos e]⟩
    · refine .inr ⟨fun p hp hpa => ?_, by rw [if_neg e]⟩
      have hlt : c.m < a.m := by have := hle b hb; omega
      rcases List.mem_append.1 hp with hp | hp
      · rw [← hm, List.map_append, List.map_cons, List.map_nil] at i2
        have := (List.pairwise_append.1 i2).2.2 p.m (List.mem_map.2 ⟨p, hp, rfl⟩) c.m (by simp)
        omega
      · rw [List.mem_singleton.1 hp] at hpa
        exact e hpa
/-! ### the map by machine -/
theorem get_zip : ∀ {ms : List Int} {bs : List Nat} (_ : bs.length = ms.length) (_ : ms.Nodup) (k : Nat) (h1 : k < ms.length) (h2 : k < bs.length), MapS.get ms[k] (ms.zip bs) = some bs[k]
  | [], _, _, _, k, h1, _ => by simp at h1
  | m :: ms, [], h, _, _, _, _ => by simp at h
  | m :: ms, b :: bs, _, _, 0, _, _ => by simp [MapS.get]
  | m :: ms, b :: bs, hl, hn, k + 1, h1, h2 => by
    obtain ⟨n1, n2⟩ := List.nodup_cons.1 hn
    have hk : k < ms.length := by simpa using h1
    have hne : ¬ m = ms[k] := fun e => n1 (by rw [e]; exact List.getElem_mem hk)
    simp only [List.zip_cons_cons, List.getElem_cons_succ, MapS.get, if_neg hne]
    exact get_zip (by simpa using hl) n2 k hk (by simpa using h2)
theorem get_zip_none : ∀ {ms : List Int} {bs : List Nat} {m : Int}, m ∉ ms → MapS.get m (ms.zip bs) = none
  | [], _, _, _ => by simp [MapS.get]
  | x :: ms, [], _, _ => by simp [MapS.get]
  | x :: ms, b :: bs, m, h => by
    have hne : ¬ x = m := fun e => h (by simp [e])
    simp only [List.zip_cons_cons, MapS.get, if_neg hne]
    exact get_zip_none (fun hm => h (by simp [hm]))
theorem zip_snoc {ms : List Int} {bs : List Nat} (h : bs.length = ms.length) (m : Int) (b : Nat) : (ms ++ [m]).zip (bs ++ [b]) = ms.zip bs ++ [(m, b)] := by
  rw [List.zip_append h.symm]
  rfl
theorem lt_nodup {l : List Int} (h : l.Pairwise (· < ·)) : l.Nodup := h.imp (fun h => by omega)
/-! ### the scions -/
theorem outsOf_nd (Y : List Ans) : MapS.ND (outsOf Y) := by
  unfold outsOf
  suffices h : ∀ (Y : List Ans) (acc : List (Qn × Int)), MapS.ND acc → MapS.ND (Y.foldl outsA acc) from h Y [] List.nodup_nil
  intro Y
  induction Y with
  | nil => exact fun _ h => h
  | cons a Y ih =>
    refine fun acc h => ih _ ?_
    unfold outsA
    generalize a.ins = xs
    induction xs generalizing acc with
    | nil => exact h
    | cons x r ih2 =>
      refine ih2 _ ?_
      unfold outA
      split
      · exact h
      · rename_i hn
        exact MapS.nd_snoc h (by simpa using hn) _
def scE (Y : List Ans) (m : Int) (p : Qn × Int) : Option T3 := if p.1.1 = m then some (p.1.2.1, p.1.2.2, luL Y (p.1.2.1, m, p.1.2.2)) else none
def scD (Y : List Ans) (m : Int) (L : List (Qn × Int)) : List T3 := L.filterMap (scE Y m)
theorem scD_snoc (Y : List Ans) (m : Int) (L : List (Qn × Int)) (p : Qn × Int) : scD Y m (L ++ [p]) = scD Y m L ++ (scE Y m p).toList := by
  unfold scD
  rw [List.filterMap_append]
  have : [p].filterMap (scE Y m) = (scE Y m p).toList := by cases h : scE Y m p <;> simp [h]
  rw [this]
theorem scD_perm {Y : List Ans} (m : Int) {L : List (Qn × Int)} (hp : L.Perm (outsOf Y)) : (scD Y m L).Perm (scOf (trOf Y) Y m) := by
  refine (hp.filterMap _).trans ((List.perm_ext_iff_of_nodup ?_ (scOf_nd _ _ _)).2 (fun e => ?_))
  · have hn := outsOf_nd Y
    generalize outsOf Y = O at hn
    clear hp
    induction O with
    | nil => exact List.nodup_nil
    | cons p O ih =>
      obtain ⟨n1, n2⟩ := List.nodup_cons.1 hn
      rw [List.filterMap_cons]
      cases h : scE Y m p with
      | none => exact ih n2
      | some e =>
        refine List.nodup_cons.2 ⟨fun hm => ?_, ih n2⟩
        obtain ⟨q, hq, hqe⟩ := List.mem_filterMap.1 hm
        refine n1 (List.mem_map.2 ⟨q, hq, ?_⟩)
        unfold scE at h hqe
        split at h
        · split at hqe
          · rename_i h1 h2
            cases h
            simp only [Option.some.injEq, Prod.mk.injEq] at hqe
            obtain ⟨⟨q0, q1, q2⟩, qo⟩ := q
            obtain ⟨⟨p0, p1, p2⟩, po⟩ := p
            simp only at h1 h2 hqe ⊢
            rw [h1, h2, hqe.1, hqe.2.1]
          · cases hqe
        · cases h
  · rw [scOf_mem, List.mem_filterMap]
    constructor
    · rintro ⟨⟨⟨q0, q1, q2⟩, o⟩, hq, he⟩
      unfold scE at he
      split at he
      · rename_i hm
        simp only at hm
        subst hm
        cases he
        have hg := (MapS.get_iff (outsOf_nd Y)).2 hq
        obtain ⟨a, ha, x, hx, e⟩ := (outsOf_some Y (q0, q1, q2)).1 (by rw [hg]; rfl)
        simp only [Prod.mk.injEq] at e
        obtain ⟨e1, e2, e3⟩ := e
        refine ⟨a, ha, e1.symm, x, hx, ?_⟩
        unfold scN
        rw [luOf_trOf, e2, e3]
      · cases he
    · rintro ⟨a, ha, hm, x, hx, rfl⟩
      have h1 := (outsOf_some Y (m, x.1, x.2.1)).2 ⟨a, ha, x, hx, by rw [hm]⟩
      obtain ⟨o, ho⟩ := Option.isSome_iff_exists.1 h1
      refine ⟨((m, x.1, x.2.1), o), MapS.get_mem ho, ?_⟩
      unfold scE scN
      rw [if_pos rfl, luOf_trOf]
/-- The sorted lists are the claims. -/
theorem clY_fin {Y : List Ans} {P : List PCl} (hs : SrtA Y) (hl : P.length = (msOf Y).length) (h : ∀ (k : Nat) (h1 : k < P.length) (h2 : k < (msOf Y).length), P[k].m = (msOf Y)[k] ∧ P[k].ep = epOf Y (msOf Y)[k] ∧
    (P[k].st.Perm (stOf (outsOf Y) Y (msOf Y)[k]) ∧ P[k].st.Pairwise (fun x y => ¬ tlt y x)) ∧ (P[k].sc.Perm (scOf (trOf Y) Y (msOf Y)[k]) ∧ P[k].sc.Pairwise (fun x y => ¬ tlt y x)) ∧ P[k].ch.Perm (chOf (outsOf Y) Y (msOf Y)[k]) ∧ P[k].ch.Pairwise (fun x y => ¬ tlt y x)) : P = clY Y := by
  refine clY_of hs hl (fun k h1 h2 => ?_)
  obtain ⟨e1, e2, e3, e4, e5⟩ := h k h1 h2
  refine ⟨e1, e2, fun j hj => ?_⟩
  match j, hj with
  | 0, _ => exact e3
  | 1, _ => exact e4
  | 2, _ => exact e5
end Go.Proofs.YtiplgpefapeapaaGreat

namespace Go.Proofs.YtiplgpefapeapaaGreat

/-- Every inset has the stamp that the specification finds first. -/
def stB (Y : List Ans) : Bool := Y.all (fun a => a.ins.all (fun x => decide ((outR Y (a.m, x.1, x.2.1)).getD 0 = x.2.2)))
def consB (Y : List Ans) : Bool := epB Y && stB Y
def accB (Y : List Ans) : Bool := Y.all (fun a => a.kn && !a.rt && a.ins.all (fun x => hasA Y (x.1, a.m, x.2.1)))
def chkR (c : Ct) : Int := if wf c = true then (if hasA c.an (kq c) = true ∧ consB c.an = true ∧ accB c.an = true ∧ (mR c.an).map (clmR c.an) = c.cl then 0 else 15) else 1
theorem outR_in {Y : List Ans} {a : Ans} (ha : a ∈ Y) {x : T3} (hx : x ∈ a.ins) : (outR Y (a.m, x.1, x.2.1)).getD 0 = x.2.2 ↔ MapS.get (a.m, x.1, x.2.1) (outsOf Y) = some x.2.2 := by
  rw [outR_eq]
  have := (outsOf_some Y (a.m, x.1, x.2.1)).2 ⟨a, ha, x, hx, rfl⟩
  obtain ⟨y, hy⟩ := Option.isSome_iff_exists.1 this
  rw [hy]
  simp
theorem chkR_eq (c : Ct) : chkR c = chk c := by
  unfold chkR chk
  by_cases hw : wf c = true
  case neg => rw [if_neg hw, if_neg hw]
  case pos =>
  rw [if_pos hw, if_pos hw]
  have hs : SrtA c.an := incA_srt (by unfold wf at hw; simp only [Bool.and_eq_true] at hw; exact hw.1.1.2)
  have key : (hasA c.an (kq c) = true ∧ consB c.an = true ∧ accB c.an = true ∧ (mR c.an).map (clmR c.an) = c.cl) ↔ goodB c = true := by
    unfold goodB consB accB
    simp only [Bool.and_eq_true, decide_eq_true_eq, List.all_eq_true]
    constructor
    · rintro ⟨h1, ⟨h2, h3⟩, h4, h5⟩
      refine ⟨⟨⟨h1, h2⟩, fun a ha => ?_⟩, ?_⟩
      · obtain ⟨h6, h7⟩ := h4 a ha
        unfold ansB
        simp only [Bool.and_eq_true, List.all_eq_true]
        refine ⟨h6, fun x hx => ?_⟩
        unfold insB
        rw [Bool.and_eq_true, decide_eq_true_eq]
        refine ⟨(outR_in ha hx).1 ?_, h7 x hx⟩
        unfold stB at h3
        simp only [List.all_eq_true, decide_eq_true_eq] at h3
        exact h3 a ha x hx
      · rw [← h5, clmsR_eq hs h2]
    · rintro ⟨⟨⟨h1, h2⟩, h3⟩, h4⟩
      have h5 : ∀ a ∈ c.an, (a.kn = true ∧ (!a.rt) = true) ∧ ∀ x ∈ a.ins, MapS.get (a.m, x.1, x.2.1) (outsOf c.an) = some x.2.2 ∧ hasA c.an (x.1, a.m, x.2.1) = true := fun a ha => by
        have := h3 a ha
        unfold ansB at this
        simp only [Bool.and_eq_true, List.all_eq_true] at this
        refine ⟨this.1, fun x hx => ?_⟩
        have h6 := this.2 x hx
        unfold insB at h6
        rw [Bool.and_eq_true, decide_eq_true_eq] at h6
        exact h6
      refine ⟨h1, ⟨h2, ?_⟩, fun a ha => ⟨(h5 a ha).1, fun x hx => ((h5 a ha).2 x hx).2⟩, ?_⟩
      · unfold stB
        simp only [List.all_eq_true, decide_eq_true_eq]
        exact fun a ha x hx => (outR_in ha hx).2 ((h5 a ha).2 x hx).1
      · rw [h4, clmsR_eq hs h2]
  by_cases hg : goodB c = true
  · rw [if_pos hg, if_pos (key.2 hg)]
  · rw [if_neg hg, if_neg (fun h => hg (key.1 h))]
end Go.Proofs.YtiplgpefapeapaaGreat

namespace Go.Proofs.YtiplgpefapeapaaGreat

/-- The number that digits stand for. -/
def valU (l : List UInt8) : Nat := l.foldl (fun n b => n * 256 + b.toNat) 0
theorem valU_snoc (l : List UInt8) (b : UInt8) : valU (l ++ [b]) = valU l * 256 + b.toNat := by simp [valU]
theorem valU_lt : ∀ (k : Nat) (l : List UInt8), l.length = k → valU l < 256 ^ k
  | 0, l, h => by rw [List.length_eq_zero_iff.1 h]; simp [valU]
  | k + 1, l, h => by
    obtain ⟨m, b, rfl⟩ : ∃ m b, l = m ++ [b] := ⟨l.dropLast, l.getLast (by intro e; subst e; simp at h), (List.dropLast_concat_getLast _).symm⟩
    have := valU_lt k m (by simpa using h)
    have hb := b.toNat_lt
    rw [valU_snoc, Nat.pow_succ]; omega
end Go.Proofs.YtiplgpefapeapaaGreat

namespace Go.Proofs.YtiplgpefapeapaaGreat
open Go.RowKit

theorem SlB.cap {w : World} {v : Value} {l : List UInt8} (h : SlB w v l) : l.length ≤ maxLen := by obtain ⟨_, a, c, rfl, h1, h2, _⟩ := h; omega

end Go.Proofs.YtiplgpefapeapaaGreat

namespace Go.Proofs.YtiplgpefapeapaaGreat
open Go.RowKit

theorem Grw.ne {w w' : World} {v v' : Value} (g : Grw w w' v v') {X : Nat} (hv : v.ownBlock ≠ some X) (hX : X < w.heap.size) : v'.ownBlock ≠ some X := by
  rcases g.own with e | ⟨k, e, hk⟩
  · rw [e]; exact hv
  · rw [e]; intro h; cases h; omega
end Go.Proofs.YtiplgpefapeapaaGreat

namespace Go.Proofs.YtiplgpefapeapaaGreat
open Go.RowKit

theorem cl2 {w : World} {b : Nat} {x0 x1 : Value} {t : TypeId} (h : w.heap[b]? = some (.cells #[x0, x1] t (0, 0))) :
    w.cell? ⟨b, 0, none⟩ = some x0 ∧ w.cell? ⟨b, 1, none⟩ = some x1 ∧ (∀ o, w.frozen? ⟨b, o, none⟩ = false) ∧ b < w.heap.size := by
  refine ⟨?_, ?_, fun o => ?_, (Array.getElem?_eq_some_iff.1 h).1⟩ <;> simp [World.cell?, World.frozen?, h]
theorem cl3 {w : World} {b : Nat} {x0 x1 x2 : Value} {t : TypeId} (h : w.heap[b]? = some (.cells #[x0, x1, x2] t (0, 0))) :
    w.cell? ⟨b, 0, none⟩ = some x0 ∧ w.cell? ⟨b, 1, none⟩ = some x1 ∧ w.cell? ⟨b, 2, none⟩ = some x2 ∧ (∀ o, w.frozen? ⟨b, o, none⟩ = false) ∧ b < w.heap.size := by
  refine ⟨?_, ?_, ?_, fun o => ?_, (Array.getElem?_eq_some_iff.1 h).1⟩ <;> simp [World.cell?, World.frozen?, h]
theorem cl5 {w : World} {b : Nat} {x0 x1 x2 x3 x4 : Value} {t : TypeId} (h : w.heap[b]? = some (.cells #[x0, x1, x2, x3, x4] t (0, 0))) :
    w.cell? ⟨b, 0, none⟩ = some x0 ∧ w.cell? ⟨b, 1, none⟩ = some x1 ∧ w.cell? ⟨b, 2, none⟩ = some x2 ∧ w.cell? ⟨b, 3, none⟩ = some x3 ∧ w.cell? ⟨b, 4, none⟩ = some x4 ∧ (∀ o, w.frozen? ⟨b, o, none⟩ = false) ∧ b < w.heap.size := by
  refine ⟨?_, ?_, ?_, ?_, ?_, fun o => ?_, (Array.getElem?_eq_some_iff.1 h).1⟩ <;> simp [World.cell?, World.frozen?, h]
theorem cl7 {w : World} {b : Nat} {x0 x1 x2 x3 x4 x5 x6 : Value} {t : TypeId} (h : w.heap[b]? = some (.cells #[x0, x1, x2, x3, x4, x5, x6] t (0, 0))) :
    w.cell? ⟨b, 0, none⟩ = some x0 ∧ w.cell? ⟨b, 1, none⟩ = some x1 ∧ w.cell? ⟨b, 2, none⟩ = some x2 ∧ w.cell? ⟨b, 3, none⟩ = some x3 ∧ w.cell? ⟨b, 4, none⟩ = some x4 ∧ w.cell? ⟨b, 5, none⟩ = some x5 ∧ w.cell? ⟨b, 6, none⟩ = some x6 ∧ (∀ o, w.frozen? ⟨b, o, none⟩ = false) ∧ b < w.heap.size := by
  refine ⟨?_, ?_, ?_, ?_, ?_, ?_, ?_, fun o => ?_, (Array.getElem?_eq_some_iff.1 h).1⟩ <;> simp [World.cell?, World.frozen?, h]
theorem cl8 {w : World} {b : Nat} {x0 x1 x2 x3 x4 x5 x6 x7 : Value} {t : TypeId} (h : w.heap[b]? = some (.cells #[x0, x1, x2, x3, x4, x5, x6, x7] t (0, 0))) :
    w.cell? ⟨b, 0, none⟩ = some x0 ∧ w.cell? ⟨b, 1, none⟩ = some x1 ∧ w.cell? ⟨b, 2, none⟩ = some x2 ∧ w.cell? ⟨b, 3, none⟩ = some x3 ∧ w.cell? ⟨b, 4, none⟩ = some x4 ∧ w.cell? ⟨b, 5, none⟩ = some x5 ∧ w.cell? ⟨b, 6, none⟩ = some x6 ∧ w.cell? ⟨b, 7, none⟩ = some x7 ∧ (∀ o, w.frozen? ⟨b, o, none⟩ = false) ∧ b < w.heap.size := by
  refine ⟨?_, ?_, ?_, ?_, ?_, ?_, ?_, ?_, fun o => ?_, (Array.getElem?_eq_some_iff.1 h).1⟩ <;> simp [World.cell?, World.frozen?, h]
theorem blks2 (w : World) (A0 A1 : Obj) : ((w.alloc A0).alloc A1).heap[w.heap.size]? = some A0 ∧ ((w.alloc A0).alloc A1).heap[w.heap.size + 1]? = some A1 ∧ Keeps [] w ((w.alloc A0).alloc A1) ∧ ((w.alloc A0).alloc A1).heap.size = w.heap.size + 1 + 1 := by
  have h0 := heap_alloc_new w A0
  have h1 := heap_alloc_new (w.alloc A0) A1
  rw [show (w.alloc A0).heap.size = w.heap.size + 1 by simp] at h1
  exact ⟨(((Keeps.refl [] (w.alloc A0)).alloc A1).block _ (Array.getElem?_eq_some_iff.1 h0).1 (by simp)).trans h0, ((Keeps.refl [] ((w.alloc A0).alloc A1)).block _ (Array.getElem?_eq_some_iff.1 h1).1 (by simp)).trans h1, (((Keeps.refl [] w).alloc A0).alloc A1), by simp⟩
theorem sc7 {w : World} {X : Nat} {t : TypeId} {y0 y1 y2 y3 y4 y5 y6 : Value} (x0 x1 x2 x3 x4 x5 x6 : Value) (h : w.heap[X]? = some (.cells #[y0, y1, y2, y3, y4, y5, y6] t (0, 0))) : (((((((w.setCell ⟨X, 0, none⟩ x0).setCell ⟨X, 1, none⟩ x1).setCell ⟨X, 2, none⟩ x2).setCell ⟨X, 3, none⟩ x3).setCell ⟨X, 4, none⟩ x4).setCell ⟨X, 5, none⟩ x5).setCell ⟨X, 6, none⟩ x6).heap[X]? = some (.cells #[x0, x1, x2, x3, x4, x5, x6] t (0, 0)) ∧ Keeps [X] w (((((((w.setCell ⟨X, 0, none⟩ x0).setCell ⟨X, 1, none⟩ x1).setCell ⟨X, 2, none⟩ x2).setCell ⟨X, 3, none⟩ x3).setCell ⟨X, 4, none⟩ x4).setCell ⟨X, 5, none⟩ x5).setCell ⟨X, 6, none⟩ x6) := by
  refine ⟨by simp [World.setCell, Array.getElem?_modify, h], ?_⟩
  refine (((((((Keeps.refl _ w).setCell ?_ _).setCell ?_ _).setCell ?_ _).setCell ?_ _).setCell ?_ _).setCell ?_ _).setCell ?_ _ <;> exact .inr (by simp)
end Go.Proofs.YtiplgpefapeapaaGreat

namespace Go.Proofs.YtiplgpefapeapaaGreat
open Go.RowKit Go.ChangeShapes

abbrev tB : Nat := 5
end Go.Proofs.YtiplgpefapeapaaGreat

namespace Go.Proofs.YtiplgpefapeapaaGreat
open Go.RowKit

/-- What a number's encoding at the head of `l` gives: the number and the rest. -/
def readU : List UInt8 → Option (Nat × List UInt8)
  | [] => none
  | k :: t => if k.toNat ≤ 8 ∧ k.toNat ≤ t.length ∧ (0 < k.toNat → t.headD 1 ≠ 0) then some (valU (t.take k.toNat), t.drop k.toNat) else none
/-- Bytes kept, and the tags of blocks of bytes. -/
def KV (w w' : World) : Prop := KB w w' ∧ ∀ (b : Nat) (cs : Array Value), w.heap[b]? = some (Obj.cells cs tB (0, 0)) → ∃ cs' : Array Value, w'.heap[b]? = some (Obj.cells cs' tB (0, 0))
theorem KV.trans {a b c : World} (h : KV a b) (k : KV b c) : KV a c := ⟨h.1.trans k.1, fun x cs hx => by obtain ⟨cs', h'⟩ := h.2 x cs hx; exact k.2 x cs' h'⟩
theorem KV.drew (w : World) : KV w w.drew := ⟨KB.drew w, fun _ cs h => ⟨cs, h⟩⟩
theorem KV.setCell (w : World) {b o : Nat} {u : Value} (v : Value) (h : w.cell? ⟨b, o, none⟩ = some u) (hu : ∀ x, u ≠ .int .u8 x) : KV w (w.setCell ⟨b, o, none⟩ v) :=
  ⟨KB.setCell w v h hu, fun x cs hx => by
    by_cases e : x = b
    · subst e
      obtain ⟨hlt, hk⟩ := Array.getElem?_eq_some_iff.1 hx
      simp [World.setCell, Array.getElem?_modify, hx]
    · exact ⟨cs, by
        rw [← hx]
        simp [World.setCell, Array.getElem?_modify, Ne.symm e]⟩⟩
theorem Keeps.kv {S : List Nat} {w w' : World} (h : Keeps S w w') (hS : ∀ b ∈ S, ∀ o x, w.cell? ⟨b, o, none⟩ ≠ some (.int .u8 x)) (hT : ∀ b ∈ S, ∀ cs : Array Value, w.heap[b]? ≠ some (Obj.cells cs tB (0, 0))) : KV w w' :=
  ⟨h.kb hS, fun b cs hb => ⟨cs, (h.block b (Array.getElem?_eq_some_iff.1 hb).1 (fun hm => hT b hm cs hb)).trans hb⟩⟩
theorem Keeps.kv0 {w w' : World} (h : Keeps [] w w') : KV w w' := h.kv (by simp) (by simp)
/-- A slice of bytes that lies in a block of bytes. -/
structure SlV (w : World) (v : Value) (l : List UInt8) : Prop where
  b : SlB w v l
  t : ∀ g : Nat, v.ownBlock = some g → ∃ cs : Array Value, w.heap[g]? = some (Obj.cells cs tB (0, 0))
namespace SlV
variable {w w' : World} {v : Value} {l : List UInt8}
theorem form (h : SlV w v l) : ∃ a cap, v = .slice a l.length cap := h.b.form
theorem cap (h : SlV w v l) : l.length ≤ maxLen := h.b.cap
theorem cases (h : SlV w v l) :
    (l = [] ∧ ∃ a cap, v = .slice a 0 cap ∧ cap ≤ maxLen ∧ (a = none → cap = 0)) ∨
    ∃ g o cap, v = .slice (some ⟨g, o, none⟩) l.length cap ∧ l.length ≤ cap ∧ cap ≤ maxLen ∧ 0 < l.length ∧ g < w.heap.size ∧ ∀ k (hk : k < l.length), w.cell? ⟨g, o + k, none⟩ = some (.int .u8 (l[k].toNat : Int)) := h.b.cases
theorem kv (h : SlV w v l) (hk : KV w w') : SlV w' v l := ⟨h.b.kb hk.1, fun g hg => by obtain ⟨cs, hc⟩ := h.t g hg; exact hk.2 g cs hc⟩
theorem keeps (h : SlV w v l) (hk : Keeps [] w w') : SlV w' v l := h.kv hk.kv0
theorem kb (h : SlV w v l) (hk : KV w w') : SlV w' v l := h.kv hk
theorem nil (w : World) : SlV w (.slice none 0 0) [] := ⟨SlB.nil w, fun g hg => by cases hg⟩
theorem tail {g o n cap : Nat} (h : SlV w (.slice (some ⟨g, o, none⟩) n cap) l) (a : Nat) (ha : a ≤ l.length) :
    SlV w (.slice (if cap = a then some ⟨g, o, none⟩ else some ⟨g, o + a, none⟩) (l.length - a) (cap - a)) (l.drop a) :=
  ⟨h.b.tail a ha, fun x hx => h.t x (by split at hx <;> exact hx)⟩
end SlV
/-- The reader at block `br`: what is left is the slice `v`, which reads as `l`; its error is `e`. -/
def Rd (w : World) (br : Nat) (v : Value) (l : List UInt8) (e : Int) : Prop := w.heap[br]? = some (.cells #[v, .int .i64 e] 126 (0, 0)) ∧ SlV w v l

theorem cell2_of {w : World} {b : Nat} {u v : Value} {t : TypeId} (h : w.heap[b]? = some (.cells #[u, v] t (0, 0))) : w.cell? ⟨b, 0, none⟩ = some u ∧ w.cell? ⟨b, 1, none⟩ = some v ∧ w.frozen? ⟨b, 0, none⟩ = false ∧ w.frozen? ⟨b, 1, none⟩ = false ∧ b < w.heap.size := by
  refine ⟨by simp [World.cell?, h], by simp [World.cell?, h], by simp [World.frozen?, h], by simp [World.frozen?, h], (Array.getElem?_eq_some_iff.1 h).1⟩

theorem cell1_of {w : World} {b : Nat} {u : Value} {t : TypeId} (h : w.heap[b]? = some (.cells #[u] t (0, 0))) : w.cell? ⟨b, 0, none⟩ = some u ∧ w.frozen? ⟨b, 0, none⟩ = false ∧ b < w.heap.size := by
  refine ⟨by simp [World.cell?, h], by simp [World.frozen?, h], (Array.getElem?_eq_some_iff.1 h).1⟩

end Go.Proofs.YtiplgpefapeapaaGreat

namespace Go.Proofs.YtiplgpefapeapaaGreat
open Go.RowKit

set_option maxRecDepth 100000 in
set_option maxHeartbeats 2000000 in
theorem uint1_bad (w : World) (br b1 b2 : Nat) (v : Value) (l : List UInt8) (h : Rd w br v l 0) (h1 : w.cell? ⟨b1, 0, none⟩ = some (.pointer (some ⟨br, 0, none⟩))) (hr : readU l = none) :
    Calls Tryz.prog 78 #[.pointer (some ⟨b1, 0, none⟩), .pointer (some ⟨b2, 0, none⟩)] w fun en w' => en = .returned (.int .i64 11) ∧ Keeps [] w w' := by
  obtain ⟨c0, c1, f0, f1, hlt⟩ := cell2_of h.1
  rcases h.2.cases with ⟨rfl, a, cp, rfl, _, _⟩ | ⟨g, o, cp, rfl, hn, hm, hp, hg, hc⟩
  · clear h hr
    go_enter Tryz.func78, Tryz.ntmps78
    go_wp2
    (refine wp_region_quiet_lit (by kernel_rfl) (by kernel_rfl) ?_; (repeat (first | go_big_quiet_step (fail) | quiet_step (fail))); with_reducible refine wpQuiet_nil ?_; intro _ hw'; obtain ⟨nq, hw''⟩ := hw'; subst hw'')
    go_wp2
    go_ret
    exact ⟨rfl, (Keeps.refl _ _).drewN _⟩
  · obtain ⟨k, t, rfl⟩ : ∃ k t, l = k :: t := by cases l with | nil => simp at hp | cons k t => exact ⟨k, t, rfl⟩
    have k0 := hc 0 (by simp)
    have k1 : 0 < t.length → w.cell? ⟨g, o + 1, none⟩ = some (.int .u8 ((t.headD 1).toNat : Int)) := fun ht => by
      have := hc 1 (by simp; omega)
      rw [this]; cases t with | nil => simp at ht | cons a b => rfl
    simp only [Nat.add_zero, List.getElem_cons_zero] at k0
    clear hc h hp
    have hcond : ¬ (k.toNat ≤ 8 ∧ k.toNat ≤ t.length ∧ (0 < k.toNat → t.headD 1 ≠ 0)) := fun hh => by
      rw [readU, if_pos hh] at hr; cases hr
    clear hr
    have hk := k.toNat_lt
    simp only [List.length_cons] at *
    generalize (t.headD 1) = t0 at *
    generalize k.toNat = kk at *
    generalize t.length = N at *
    have hNN : (N : Int) + 1 ≤ 9223372036854775807 := by unfold maxLen at hm; omega
    by_cases h8 : kk ≤ 8
    · have d8 : decide ((8 : Int) < (kk : Int)) = false := by simp; omega
      by_cases hN : kk ≤ N
      · have dN : decide ((N : Int) + 1 ≤ (kk : Int)) = false := by simp; omega
        have hk0 : 0 < kk := by
          rcases Nat.eq_zero_or_pos kk with e | e
          · exact absurd ⟨h8, hN, fun h => by omega⟩ hcond
          · exact e
        have dk : (0 : Int) < (kk : Int) := by omega
        have ht0 : t0 = 0 := by
          rcases Classical.em (t0 = 0) with e | e
          · exact e
          · exact absurd ⟨h8, hN, fun _ => e⟩ hcond
        subst ht0
        have k1' := k1 (by omega)
        simp at k1'
        clear hcond k1
        go_enter Tryz.func78, Tryz.ntmps78
        go_wp2
        (refine wp_region_quiet_lit (by kernel_rfl) (by kernel_rfl) ?_; (repeat (first | go_big_quiet_step (fail) | quiet_step (fail))); with_reducible refine wpQuiet_nil ?_; intro _ hw'; obtain ⟨nq, hw''⟩ := hw'; subst hw'')
        go_wp2
        go_ret
        exact ⟨rfl, (Keeps.refl _ _).drewN _⟩
      · have dN : (N : Int) + 1 ≤ (kk : Int) := by omega
        clear hcond k1
        go_enter Tryz.func78, Tryz.ntmps78
        go_wp2
        (refine wp_region_quiet_lit (by kernel_rfl) (by kernel_rfl) ?_; (repeat (first | go_big_quiet_step (fail) | quiet_step (fail))); with_reducible refine wpQuiet_nil ?_; intro _ hw'; obtain ⟨nq, hw''⟩ := hw'; subst hw'')
        go_wp2
        go_ret
        exact ⟨rfl, (Keeps.refl _ _).drewN _⟩
    · have d8 : (8 : Int) < (kk : Int) := by omega
      clear hcond k1
      go_enter Tryz.func78, Tryz.ntmps78
      go_wp2
      (refine wp_region_quiet_lit (by kernel_rfl) (by kernel_rfl) ?_; (repeat (first | go_big_quiet_step (fail) | quiet_step (fail))); with_reducible refine wpQuiet_nil ?_; intro _ hw'; obtain ⟨nq, hw''⟩ := hw'; subst hw'')
      go_wp2
      go_ret
      exact ⟨rfl, (Keeps.refl _ _).drewN _⟩

end Go.Proofs.YtiplgpefapeapaaGreat

namespace Go.Proofs.YtiplgpefapeapaaGreat
open Go.RowKit

theorem set2_0 {w : World} {b : Nat} {u v : Value} {t : TypeId} (h : w.heap[b]? = some (.cells #[u, v] t (0, 0))) (u' : Value) : (w.setCell ⟨b, 0, none⟩ u').heap[b]? = some (.cells #[u', v] t (0, 0)) := by
  obtain ⟨hlt, hk⟩ := Array.getElem?_eq_some_iff.1 h
  simp [World.setCell, Array.getElem?_modify, h]
theorem set2_1 {w : World} {b : Nat} {u v : Value} {t : TypeId} (h : w.heap[b]? = some (.cells #[u, v] t (0, 0))) (v' : Value) : (w.setCell ⟨b, 1, none⟩ v').heap[b]? = some (.cells #[u, v'] t (0, 0)) := by
  obtain ⟨hlt, hk⟩ := Array.getElem?_eq_some_iff.1 h
  simp [World.setCell, Array.getElem?_modify, h]
/-- One byte more, as the machine reckons it. -/
theorem or_byte (x y : Nat) (hx : (x : Int) < 72057594037927936) (hy : (y : Int) ≤ 255) : bits .or .u64 ((x : Int) * 256) (y : Int) = ((x * 256 + y : Nat) : Int) := by
  have h := u64_or_nat (x * 256) y (by omega) (by omega)
  have h2 : x * 256 + y = x * 256 ||| y := by
    have := Nat.shiftLeft_add_eq_or_of_lt (i := 8) (b := y) (by omega) x
    simpa [Nat.shiftLeft_eq] using this
  rw [h2, ← h]; simp

theorem rd_tail (w wr : World) (br b2 g o N cp : Nat) (k : UInt8) (t : List UInt8) (j : Nat) (h : Rd w br (.slice (some ⟨g, o, none⟩) (t.length + 1) cp) (k :: t) 0) (hk : Keeps [b2] w wr)
    (hb : wr.heap[b2]? = some (.cells #[.int .u64 (valU (t.take j))] 26 (0, 0))) (hb0 : w.heap[b2]? = some (.cells #[.int .u64 0] 26 (0, 0))) (hN : t.length = N) (hj : j ≤ N) (hbr : br ≠ b2) :
    (wr.setCell ⟨br, 0, none⟩ (.slice (if cp = 1 + j then some ⟨g, o, none⟩ else some ⟨g, o + (1 + j), none⟩) (N + 1 - (1 + j)) (cp - (1 + j)))).drew.heap[b2]? = some (.cells #[.int .u64 (valU (t.take j))] 26 (0, 0)) ∧
    (∃ v', Rd (wr.setCell ⟨br, 0, none⟩ (.slice (if cp = 1 + j then some ⟨g, o, none⟩ else some ⟨g, o + (1 + j), none⟩) (N + 1 - (1 + j)) (cp - (1 + j)))).drew br v' (t.drop j) 0) ∧
    Keeps [br, b2] w (wr.setCell ⟨br, 0, none⟩ (.slice (if cp = 1 + j then some ⟨g, o, none⟩ else some ⟨g, o + (1 + j), none⟩) (N + 1 - (1 + j)) (cp - (1 + j)))).drew := by
  subst hN
  obtain ⟨q0, _, _, _, hlt⟩ := cell2_of h.1
  have hbr' := (hk.block br hlt (by simp; omega)).trans h.1
  have htl := SlV.tail h.2 (1 + j) (by simp; omega)
  have hk2 : Keeps [br, b2] w wr := hk.mono (fun x hx => by simp at hx; simp [hx])
  have hkb : KV w wr := hk.kv (by intro b hb; simp at hb; subst hb; exact no_byte hb0 (by simp)) (by intro b hb cs hc; simp at hb; subst hb; rw [hb0] at hc; simp only [Option.some.injEq, Obj.cells.injEq] at hc; exact absurd hc.2.1 (by decide))
  refine ⟨?_, ⟨_, ⟨set2_0 hbr' _, ?_⟩⟩, (hk2.setCell (.inr (by simp)) _).drew⟩
  · exact (Below.heap_setCell _ _ _ _ (by simp; omega)).trans hb
  · simp only [List.length_cons, Nat.add_comm 1 j, List.drop_succ_cons] at htl ⊢
    exact htl.kv (hkb.trans ((KV.setCell wr _ (cell2_of hbr').1 (by simp)).trans (KV.drew _)))

set_option maxRecDepth 100000 in
set_option maxHeartbeats 2000000 in
theorem uint1_ok (w : World) (br b1 b2 : Nat) (v : Value) (l rest : List UInt8) (x : Nat) (h : Rd w br v l 0) (h1 : w.cell? ⟨b1, 0, none⟩ = some (.pointer (some ⟨br, 0, none⟩))) (h2 : w.heap[b2]? = some (.cells #[.int .u64 0] 26 (0, 0)))
    (hne : b1 ≠ b2 ∧ br ≠ b2) (hr : readU l = some (x, rest)) :
    Calls Tryz.prog 78 #[.pointer (some ⟨b1, 0, none⟩), .pointer (some ⟨b2, 0, none⟩)] w fun en w' => en = .returned (.int .i64 0) ∧ w'.heap[b2]? = some (.cells #[.int .u64 x] 26 (0, 0)) ∧ (∃ v', Rd w' br v' rest 0) ∧ Keeps [br, b2] w w' := by
  obtain ⟨c0, c1, f0, f1, hlt⟩ := cell2_of h.1
  obtain ⟨e0, fe0, hlt2⟩ := cell1_of h2
  rcases h.2.cases with ⟨rfl, a, cp, rfl, _, _⟩ | ⟨g, o, cp, rfl, hn, hm, hp, hg, hc⟩
  · cases hr
  · obtain ⟨k, t, rfl⟩ : ∃ k t, l = k :: t := by cases l with | nil => simp at hp | cons k t => exact ⟨k, t, rfl⟩
    have k0 := hc 0 (by simp)
    have hgb : g ≠ b2 := fun e => by subst e; exact no_byte h2 (by simp) _ _ k0
    have k1 : 0 < t.length → w.cell? ⟨g, o + 1, none⟩ = some (.int .u8 ((t.headD 1).toNat : Int)) := fun ht => by
      have := hc 1 (by simp; omega)
      rw [this]; cases t with | nil => simp at ht | cons a b => rfl
    have kj : ∀ j (hj : j < t.length), w.cell? ⟨g, o + 1 + j, none⟩ = some (.int .u8 (t[j].toNat : Int)) := fun j hj => by
      have := hc (j + 1) (by simp; omega)
      rw [show o + 1 + j = o + (j + 1) by omega, this]; rfl
    simp only [Nat.add_zero, List.getElem_cons_zero] at k0
    clear hc hp
    have hcond : k.toNat ≤ 8 ∧ k.toNat ≤ t.length ∧ (0 < k.toNat → t.headD 1 ≠ 0) := by
      rcases Classical.em (k.toNat ≤ 8 ∧ k.toNat ≤ t.length ∧ (0 < k.toNat → t.headD 1 ≠ 0)) with e | e
      · exact e
      · rw [readU, if_neg e] at hr; cases hr
    rw [readU, if_pos hcond] at hr
    simp only [Option.some.injEq, Prod.mk.injEq] at hr
    obtain ⟨h8, hN, ht0⟩ := hcond
    obtain ⟨hx, hrest⟩ := hr
    have hk : k.toNat ≤ 255 := by have := k.toNat_lt; omega
    have hh := Lib.hid h
    have hh2 := Lib.hid h2
    replace hx := Lib.hid hx
    replace hrest := Lib.hid hrest
    replace kj := Lib.hid kj
    clear h h2
    simp only [List.length_cons] at *
    obtain ⟨t0, htt0⟩ : ∃ t0, t.headD 1 = t0 := ⟨_, rfl⟩
    rw [htt0] at k1 ht0
    clear htt0
    obtain ⟨kk, hkk⟩ : ∃ kk, k.toNat = kk := ⟨_, rfl⟩
    rw [hkk] at k0 h8 hN ht0 hk hx hrest
    clear hkk
    obtain ⟨N, hNt⟩ : ∃ N, t.length = N := ⟨_, rfl⟩
    rw [hNt] at hN k1 hn c0
    replace hNt := Lib.hid hNt
    have hNN : (N : Int) + 1 ≤ 9223372036854775807 := by unfold maxLen at hm; omega
    have d8 : decide ((8 : Int) < (kk : Int)) = false := by simp; omega
    have nz : ((N : Int) + 1 == 0) = false := by simp; omega
    have wk : IntKind.i64.wrap (kk : Int) = kk := IntWalk.i64_in _ (by omega)
    have dN : decide ((N : Int) + 1 ≤ (kk : Int)) = false := by simp; omega
    have hfacts : (∃ _ : (0 : Int) < (kk : Int), 0 < kk ∧ w.cell? ⟨g, o + 1, none⟩ = some (.int .u8 (t0.toNat : Int)) ∧ ((t0.toNat : Int) == 0) = false) ∨ (decide ((0 : Int) < (kk : Int)) = false ∧ decide (0 < kk) = false) := by
      by_cases hk0 : 0 < kk
      · refine .inl ⟨by omega, hk0, k1 (by omega), ?_⟩
        have := ht0 hk0
        have h9 : t0.toNat ≠ 0 := fun e => this (UInt8.toNat_inj.1 (by simpa using e))
        simp; omega
      · exact .inr ⟨by simp; omega, by simp; omega⟩
    clear ht0 k1
    have hcp : 1 < cp ∨ (cp = 1 ∧ N = 0 ∧ kk = 0) := by omega
    rcases hcp with hcp | ⟨hcp1, hcp2, hcp3⟩
    · rcases hfacts with ⟨dk, hk0, k1', t0n⟩ | ⟨dk, dk2⟩
      all_goals
        go_enter Tryz.func78, Tryz.ntmps78
        go_wp2
        (refine wp_region_quiet_lit (by kernel_rfl) (by kernel_rfl) ?_; (repeat (first | go_big_quiet_step (fail) | quiet_step (fail))); with_reducible refine wpQuiet_nil ?_; intro _ hw'; obtain ⟨nq, hw''⟩ := hw'; subst hw'')
        go_wp2
        go_loopw [5, 69] (fun _ i wr => ∃ j : Nat, j ≤ kk ∧ i = .int .i64 j ∧ wr.heap[b2]? = some (.cells #[.int .u64 (valU (t.take j))] 26 (0, 0)) ∧ Keeps [b2] w wr) (fun _ i _ => kk - (intOf i).toNat)
        case atStart => exact ⟨0, by omega, rfl, hh2.out, (Keeps.refl _ w).drewN _⟩
        case round =>
          obtain ⟨j, hj, rfl, hb2, hkw⟩ := hrel
          obtain ⟨eb, fb, lb⟩ := cell1_of hb2
          have q0 := (hkw.cell br 0 hlt (by simp; omega)).trans c0
          have q1 := (hkw.frozen br 0 hlt (by simp; omega)).trans f0
          have q2 := (hkw.cell b1 0 (lt_of_cell h1) (by simp; omega)).trans h1
          have hvl := valU_lt j (t.take j) (by rw [List.length_take]; have := hNt.out; omega)
          by_cases hlt3 : j < kk
          · have hjt : j < t.length := by have := hNt.out; omega
            have hcj := (hkw.cell g (o + 1 + j) hg (by simp; omega)).trans (kj.out j hjt)
            have hb8 : (t[j].toNat : Int) ≤ 255 := by have := t[j].toNat_lt; omega
            have hstep : Hid (valU (t.take (j + 1)) = valU (t.take j) * 256 + t[j].toNat) := by show _ = _; rw [List.take_succ_eq_append_getElem hjt, valU_snoc]
            have hvb : (valU (t.take j) : Int) < 72057594037927936 := by
              have : (256 : Nat) ^ j ≤ 256 ^ 7 := Nat.pow_le_pow_right (by omega) (by omega)
              omega
            clear hvl
            generalize t[j].toNat = y at *
            generalize hvv : valU (t.take j) = vv at *
            replace hb2 := Lib.hid hb2
            replace hkw := Lib.hid hkw
            replace hvv := Lib.hid hvv
            go_wp2
            go_roundw
            case rel => exact ⟨j + 1, by omega, by go_num, by rw [or_byte _ _ hvb hb8, hstep.out]; exact one_setCell hb2.out, hkw.out.setCell (.inr (by simp)) _⟩
            case measure => simp [intOf]; omega
          · have hjk : j = kk := by omega
            subst hjk
            replace hb2 := Lib.hid hb2
            replace hkw := Lib.hid hkw
            clear hvl
            go_wp2
            go_region
            have hfin := rd_tail w wr br b2 g o N cp k t j hh.out hkw.out hb2.out hh2.out hNt.out hN (by omega)
            rw [hx.out, hrest.out] at hfin
            generalize hW : (wr.setCell ⟨br, 0, none⟩ (.slice (if cp = 1 + j then some ⟨g, o, none⟩ else some ⟨g, o + (1 + j), none⟩) (N + 1 - (1 + j)) (cp - (1 + j)))).drew = W at *
            replace hfin := Lib.hid hfin
            clear hW
            (repeat go_step)
            go_ret
            exact ⟨rfl, hfin.out⟩
    · clear hfacts
      subst hcp1 hcp2 hcp3
      have k0' : w.cell? ⟨g, o, none⟩ = some (.int .u8 0) := by simpa using k0
      simp only [Nat.zero_add] at c0
      have c0' : w.cell? ⟨br, 0, none⟩ = some (.slice (some ⟨g, o, none⟩) 1 1) := c0
      clear hk h8 k0 d8 dN wk c0 nz hm hn hN hNN
      go_enter Tryz.func78, Tryz.ntmps78
      go_wp2
      (refine wp_region_quiet_lit (by kernel_rfl) (by kernel_rfl) ?_; (repeat (first | go_big_quiet_step (fail) | quiet_step (fail))); with_reducible refine wpQuiet_nil ?_; intro _ hw'; obtain ⟨nq, hw''⟩ := hw'; subst hw'')
      go_wp2
      go_loopw [5, 69] (fun _ i wr => i = .int .i64 0 ∧ ∃ n, wr = w.drewN n) (fun _ i _ => 0)
      case atStart => exact ⟨rfl, _, rfl⟩
      case round =>
        obtain ⟨rfl, n, rfl⟩ := hrel
        have hkw : Keeps [b2] w (w.drewN n) := (Keeps.refl _ w).drewN n
        have hfin := rd_tail w (w.drewN n) br b2 g o 0 1 k t 0 hh.out hkw (by simpa [valU] using hh2.out) hh2.out hNt.out (by omega) hne.2
        rw [hx.out, hrest.out] at hfin
        simp only [Nat.add_zero, if_true, Nat.zero_add, Nat.sub_self] at hfin
        clear hkw
        replace hfin := Lib.hid hfin
        go_wp2
        go_region
        (repeat go_step)
        go_ret
        exact ⟨rfl, hfin.out⟩
end Go.Proofs.YtiplgpefapeapaaGreat

namespace Go.Proofs.YtiplgpefapeapaaGreat
open Go.RowKit

theorem Rd.keeps {w w' : World} {br : Nat} {v : Value} {l : List UInt8} {e : Int} (h : Rd w br v l e) (hk : Keeps [] w w') : Rd w' br v l e :=
  ⟨(hk.block br (cell2_of h.1).2.2.2.2 (by simp)).trans h.1, h.2.keeps hk⟩

theorem two_boxes (w : World) (p : Value) : ((w.alloc (.cells #[p] 57)).alloc (.cells #[.int .u64 0] 26)).heap[w.heap.size + 1]? = some (.cells #[.int .u64 0] 26 (0, 0)) := by
  have := heap_alloc_new (w.alloc (.cells #[p] 57)) (.cells #[.int .u64 0] 26)
  simpa using this
theorem rd_set_ok {w : World} {br : Nat} {v : Value} {l : List UInt8} {e : Int} (h : Rd w br v l e) (e' : Int) : Rd (w.setCell ⟨br, 1, none⟩ (.int .i64 e')) br v l e' :=
  ⟨set2_1 h.1 _, h.2.kv (KV.setCell w _ (cell2_of h.1).2.1 (by simp))⟩
theorem rd_set_bad {w : World} {br : Nat} {v : Value} {l : List UInt8} {e : Int} (h : Rd w br v l e) (e' : Int) : Rd ((w.setCell ⟨br, 1, none⟩ (.int .i64 e')).setCell ⟨br, 0, none⟩ (.slice none 0 0)) br (.slice none 0 0) [] e' :=
  ⟨set2_0 (set2_1 h.1 _) _, SlV.nil _⟩
set_option maxRecDepth 100000 in
set_option maxHeartbeats 2000000 in
theorem uint_ok (w : World) (br : Nat) (v : Value) (l rest : List UInt8) (x : Nat) (h : Rd w br v l 0) (hr : readU l = some (x, rest)) :
    Calls Tryz.prog 27 #[.pointer (some ⟨br, 0, none⟩)] w fun en w' => en = .returned (.int .u64 x) ∧ (∃ v', Rd w' br v' rest 0) ∧ Keeps [br] w w' := by
  obtain ⟨c0, c1, f0, f1, hlt⟩ := cell2_of h.1
  have hne : ¬ w.heap.size = br := by omega
  have hne2 : ¬ w.heap.size + 1 = br := by omega
  obtain ⟨a0, cp0, rfl⟩ := h.2.form
  have hkA : Keeps [] w ((w.alloc (.cells #[.pointer (some ⟨br, 0, none⟩)] 57)).alloc (.cells #[.int .u64 0] 26)) := ((Keeps.refl [] w).alloc _).alloc _
  have hc := uint1_ok _ br w.heap.size (w.heap.size + 1) _ l rest x (h.keeps hkA) (by simp) (two_boxes w _) ⟨by omega, by omega⟩ hr
  replace h := Lib.hid h
  replace hkA := Lib.hid hkA
  replace hc := Lib.hid hc
  replace hr := Lib.hid hr
  clear c0
  go_enter Tryz.func27, Tryz.ntmps27
  go_wp2_with (first
    | (go_at_call 78; refine hc.out.mono ?_; rintro e w3 ⟨rfl, hb2, ⟨v3, hR3⟩, hk3⟩; obtain ⟨d0, d1, g0, g1, hlt3⟩ := cell2_of hR3.1; obtain ⟨e0, _, hlt4⟩ := cell1_of hb2; have hk4 := Lib.hid hk3; have hR4 := Lib.hid hR3; clear hk3 hR3 hb2)
    | go_in)
  go_ret
  exact ⟨rfl, ⟨v3, rd_set_ok hR4.out 0⟩, (hkA.out.of_nil.trans' hk4.out (by simp)).setCell (.inr (by simp)) _⟩

set_option maxRecDepth 100000 in
set_option maxHeartbeats 2000000 in
theorem uint_bad (w : World) (br : Nat) (v : Value) (l : List UInt8) (h : Rd w br v l 0) (hr : readU l = none) :
    Calls Tryz.prog 27 #[.pointer (some ⟨br, 0, none⟩)] w fun en w' => en = .returned (.int .u64 0) ∧ Rd w' br (.slice none 0 0) [] 11 ∧ Keeps [br] w w' := by
  obtain ⟨c0, c1, f0, f1, hlt⟩ := cell2_of h.1
  have hne : ¬ w.heap.size = br := by omega
  have hne2 : ¬ w.heap.size + 1 = br := by omega
  obtain ⟨a0, cp0, rfl⟩ := h.2.form
  have hkA : Keeps [] w ((w.alloc (.cells #[.pointer (some ⟨br, 0, none⟩)] 57)).alloc (.cells #[.int .u64 0] 26)) := ((Keeps.refl [] w).alloc _).alloc _
  have hc := uint1_bad _ br w.heap.size (w.heap.size + 1) _ l (h.keeps hkA) (by simp) hr
  have h2 := two_boxes w (.pointer (some ⟨br, 0, none⟩))
  replace h2 := Lib.hid h2
  replace h := Lib.hid h
  replace hkA := Lib.hid hkA
  replace hc := Lib.hid hc
  replace hr := Lib.hid hr
  clear c0
  go_enter Tryz.func27, Tryz.ntmps27
  go_wp2_with (first
    | (go_at_call 78; refine hc.out.mono ?_; rintro e w3 ⟨rfl, hk3⟩; have hR3 := (h.out.keeps hkA.out).keeps hk3; obtain ⟨d0, d1, g0, g1, hlt3⟩ := cell2_of hR3.1; have hk4 := Lib.hid hk3; have hR4 := Lib.hid hR3; have h22 := Lib.hid ((hk3.block _ (by simp) (by simp)).trans h2.out); obtain ⟨e0, _, hlt4⟩ := cell1_of h22.out; clear hk3 hR3)
    | go_in)
  go_ret
  exact ⟨rfl, rd_set_bad hR4.out 11, (((hkA.out.trans hk4.out).of_nil).setCell (.inr (by simp)) _).setCell (.inr (by simp)) _⟩

/-- Both in one: what a number's reading gives and leaves. -/
def rdU (l : List UInt8) : Nat × List UInt8 × Int := match readU l with | some (x, r) => (x, r, 0) | none => (0, [], 11)
theorem uint_c (w : World) (br : Nat) (v : Value) (l : List UInt8) (h : Rd w br v l 0) :
    Calls Tryz.prog 27 #[.pointer (some ⟨br, 0, none⟩)] w fun en w' => en = .returned (.int .u64 (rdU l).1) ∧ (∃ v', Rd w' br v' (rdU l).2.1 (rdU l).2.2) ∧ Keeps [br] w w' := by
  cases hr : readU l with
  | none =>
    have e : rdU l = (0, [], 11) := by simp [rdU, hr]
    rw [e]
    exact (uint_bad w br v l h hr).mono fun _ _ ⟨h1, h2, h3⟩ => ⟨h1, ⟨_, h2⟩, h3⟩
  | some p =>
    obtain ⟨x, r⟩ := p
    have e : rdU l = (x, r, 0) := by simp [rdU, hr]
    rw [e]
    exact uint_ok w br v l r x h hr
end Go.Proofs.YtiplgpefapeapaaGreat

namespace Go.Proofs.YtiplgpefapeapaaGreat
open Go.RowKit

/-- A reader's state: what is left, and the error. -/
abbrev RS := List UInt8 × Int
def rU (s : RS) : Nat × RS := if s.2 = 0 then (match readU s.1 with | some (x, r) => (x, (r, 0)) | none => (0, ([], 11))) else (0, s)
def readB : List UInt8 → Option (Bool × List UInt8)
  | [] => none
  | k :: t => if k.toNat ≤ 1 then some (k.toNat == 1, t) else none
def rB (s : RS) : Bool × RS := if s.2 = 0 then (match readB s.1 with | some (x, r) => (x, (r, 0)) | none => (false, ([], 11))) else (false, s)
/-- The reader in memory, in a state. -/
def RdS (w : World) (br : Nat) (s : RS) : Prop := ∃ v, Rd w br v s.1 s.2
theorem RdS.keeps {w w' : World} {br : Nat} {s : RS} (h : RdS w br s) (hk : Keeps [] w w') : RdS w' br s := by obtain ⟨v, h⟩ := h; exact ⟨v, h.keeps hk⟩
theorem RdS.lt {w : World} {br : Nat} {s : RS} (h : RdS w br s) : br < w.heap.size := by obtain ⟨v, h⟩ := h; exact (cell2_of h.1).2.2.2.2
set_option maxRecDepth 100000 in
set_option maxHeartbeats 2000000 in
theorem uint_err (w : World) (br : Nat) (v : Value) (l : List UInt8) (e : Int) (h : Rd w br v l e) (he : e ≠ 0) :
    Calls Tryz.prog 27 #[.pointer (some ⟨br, 0, none⟩)] w fun en w' => en = .returned (.int .u64 0) ∧ Keeps [] w w' := by
  obtain ⟨c0, c1, f0, f1, hlt⟩ := cell2_of h.1
  have hne : ¬ w.heap.size = br := by omega
  have hne2 : ¬ w.heap.size + 1 = br := by omega
  have he2 : (e == 0) = false := by simp [he]
  obtain ⟨a0, cp0, rfl⟩ := h.2.form
  have hkA : Keeps [] w ((w.alloc (.cells #[.pointer (some ⟨br, 0, none⟩)] 57)).alloc (.cells #[.int .u64 0] 26)) := ((Keeps.refl [] w).alloc _).alloc _
  clear h c0 he
  go_enter Tryz.func27, Tryz.ntmps27
  go_wp2_with (first | go_in)
  go_ret
  exact ⟨rfl, hkA⟩
theorem uintS_c (w : World) (br : Nat) (s : RS) (h : RdS w br s) :
    Calls Tryz.prog 27 #[.pointer (some ⟨br, 0, none⟩)] w fun en w' => en = .returned (.int .u64 (rU s).1) ∧ RdS w' br (rU s).2 ∧ Keeps [br] w w' := by
  obtain ⟨l, e⟩ := s
  obtain ⟨v, h⟩ := h
  by_cases he : e = 0
  · subst he
    refine (uint_c w br v l h).mono fun en w' ⟨h1, h2, h3⟩ => ?_
    have : rU (l, 0) = ((rdU l).1, ((rdU l).2.1, (rdU l).2.2)) := by
      cases hx : readU l with
      | none => simp [rU, rdU, hx]
      | some p => obtain ⟨x, r⟩ := p; simp [rU, rdU, hx]
    rw [this]
    exact ⟨h1, h2, h3⟩
  · refine (uint_err w br v l e h he).mono fun en w' ⟨h1, h2⟩ => ?_
    rw [show rU (l, e) = (0, (l, e)) by unfold rU; rw [if_neg he]]
    exact ⟨h1, ⟨v, h.keeps h2⟩, h2.of_nil⟩
theorem two_boxesB (w : World) (p : Value) : ((w.alloc (.cells #[p] 57)).alloc (.cells #[.bool false] 4)).heap[w.heap.size + 1]? = some (.cells #[.bool false] 4 (0, 0)) := by
  have := heap_alloc_new (w.alloc (.cells #[p] 57)) (.cells #[.bool false] 4)
  simpa using this
set_option maxRecDepth 100000 in
set_option maxHeartbeats 2000000 in
theorem bool1_bad (w : World) (br b1 b2 : Nat) (v : Value) (l : List UInt8) (h : Rd w br v l 0) (h1 : w.cell? ⟨b1, 0, none⟩ = some (.pointer (some ⟨br, 0, none⟩))) (hr : readB l = none) :
    Calls Tryz.prog 80 #[.pointer (some ⟨b1, 0, none⟩), .pointer (some ⟨b2, 0, none⟩)] w fun en w' => en = .returned (.int .i64 11) ∧ Keeps [] w w' := by
  obtain ⟨c0, c1, f0, f1, hlt⟩ := cell2_of h.1
  rcases h.2.cases with ⟨rfl, a, cp, rfl, _, _⟩ | ⟨g, o, cp, rfl, hn, hm, hp, hg, hc⟩
  · clear h hr
    go_enter Tryz.func80, Tryz.ntmps80
    go_wp2
    go_ret
    exact ⟨rfl, Keeps.refl _ _⟩
  · obtain ⟨k, t, rfl⟩ : ∃ k t, l = k :: t := by cases l with | nil => simp at hp | cons k t => exact ⟨k, t, rfl⟩
    have k0 := hc 0 (by simp)
    simp only [Nat.add_zero, List.getElem_cons_zero] at k0
    have hk1 : 1 < k.toNat := by
      rcases Nat.lt_or_ge 1 k.toNat with e | e
      · exact e
      · rw [readB, if_pos e] at hr; cases hr
    clear h hc hp hr
    have hk := k.toNat_lt
    simp only [List.length_cons] at *
    generalize k.toNat = kk at *
    generalize t.length = N at *
    have hNN : (N : Int) + 1 ≤ 9223372036854775807 := by unfold maxLen at hm; omega
    have nz : ((N : Int) + 1 == 0) = false := by simp; omega
    have d1 : (1 : Int) < (kk : Int) := by omega
    go_enter Tryz.func80, Tryz.ntmps80
    go_wp2
    go_ret
    exact ⟨rfl, Keeps.refl _ _⟩
set_option maxRecDepth 100000 in
set_option maxHeartbeats 2000000 in
theorem bool1_ok (w : World) (br b1 b2 : Nat) (v : Value) (l rest : List UInt8) (x : Bool) (h : Rd w br v l 0) (h1 : w.cell? ⟨b1, 0, none⟩ = some (.pointer (some ⟨br, 0, none⟩))) (h2 : w.heap[b2]? = some (.cells #[.bool false] 4 (0, 0)))
    (hne : b1 ≠ b2 ∧ br ≠ b2 ∧ b1 ≠ br) (hr : readB l = some (x, rest)) :
    Calls Tryz.prog 80 #[.pointer (some ⟨b1, 0, none⟩), .pointer (some ⟨b2, 0, none⟩)] w fun en w' => en = .returned (.int .i64 0) ∧ w'.heap[b2]? = some (.cells #[.bool x] 4 (0, 0)) ∧ (∃ v', Rd w' br v' rest 0) ∧ Keeps [br, b2] w w' := by
  obtain ⟨c0, c1, f0, f1, hlt⟩ := cell2_of h.1
  obtain ⟨e0, fe0, hlt2⟩ := cell1_of h2
  rcases h.2.cases with ⟨rfl, a, cp, rfl, _, _⟩ | ⟨g, o, cp, rfl, hn, hm, hp, hg, hc⟩
  · cases hr
  · obtain ⟨k, t, rfl⟩ : ∃ k t, l = k :: t := by cases l with | nil => simp at hp | cons k t => exact ⟨k, t, rfl⟩
    have k0 := hc 0 (by simp)
    simp only [Nat.add_zero, List.getElem_cons_zero] at k0
    have hgb : g ≠ b2 := fun e => by subst e; exact no_byte h2 (by simp) _ _ k0
    have hgr : g ≠ br := fun e => by subst e; exact no_byte h.1 (by simp) _ _ k0
    have hk1 : k.toNat ≤ 1 := by
      rcases Nat.lt_or_ge 1 k.toNat with e | e
      · rw [readB, if_neg (by omega)] at hr; cases hr
      · exact e
    rw [readB, if_pos hk1] at hr
    simp only [Option.some.injEq, Prod.mk.injEq] at hr
    obtain ⟨hx, rfl⟩ := hr
    have htl := SlV.tail h.2 1 (by simp)
    simp only [List.length_cons, List.drop_succ_cons, List.drop_zero, Nat.add_sub_cancel] at htl
    simp only [List.length_cons] at *
    have hh := Lib.hid h
    have hh2 := Lib.hid h2
    clear h h2 hc hp
    generalize hkk : k.toNat = kk at *
    obtain ⟨N, hNt⟩ : ∃ N, t.length = N := ⟨_, rfl⟩
    rw [hNt] at hn c0 htl
    have hhN : Hid (Rd w br (.slice (some ⟨g, o, none⟩) (N + 1) cp) (k :: t) 0) := by rw [← hNt]; exact hh
    clear hNt hh
    have hNN : (N : Int) + 1 ≤ 9223372036854775807 := by unfold maxLen at hm; omega
    have nz : ((N : Int) + 1 == 0) = false := by simp; omega
    have d1 : decide ((1 : Int) < (kk : Int)) = false := by simp; omega
    have h1N : (1 : Int) ≤ (N : Int) + 1 := by omega
    have hxx : ((kk : Int) == 1) = x := by rw [← hx, Bool.eq_iff_iff]; simp; omega
    obtain ⟨vt, hvt⟩ : ∃ vt, (if cp = 1 then some (⟨g, o, none⟩ : Addr) else some ⟨g, o + 1, none⟩) = vt := ⟨_, rfl⟩
    rw [hvt] at htl
    replace htl := Lib.hid htl
    replace hvt := Lib.hid hvt
    replace hkk := Lib.hid hkk
    clear hx
    go_enter Tryz.func80, Tryz.ntmps80
    go_wp2
    refine Free.wp_region_chain (fun i => i == 13 || i == 16) (fun i => true) (fun j b => (j = 13 ∧ b = b2) ∨ (j = 16 ∧ b = br)) (by kernel_rfl) (by kernel_rfl) (by kernel_rfl) ?_
    (repeat (first | (apply Free.cw_pure rfl rfl; (intro w'; go_simp <;> exact rfl); go_frame) | (apply Free.cw_steady rfl rfl rfl; (intro w' hS; have q0 := Free.sx_cell hS h1 (fun _ _ hT => Or.elim hT (fun h => hne.1 h.2) (fun h => hne.2.2 h.2)); have q1 := Free.sx_cell hS k0 (fun _ _ hT => Or.elim hT (fun h => hgb h.2) (fun h => hgr h.2)); have q2 := Free.sx_cell hS c0 (fun j hp hT => Or.elim hT (fun h => hne.2.1 h.2) (fun h => by obtain ⟨rfl, _⟩ := h; exact absurd hp (by decide +kernel))); go_simp <;> exact rfl); go_frame) | (refine Free.cw_skip rfl ?_; go_frame)))
    clear hxx d1 nz hk1
    rw [hvt.out]
    refine Free.cw_loud rfl rfl (fun K hK => ?_)
    go_wp2
    refine hK _ _ rfl (Free.KeepsP.setCell _ (.inl ⟨trivial, rfl⟩) _) ?_
    clear hK K
    (repeat (first | (apply Free.cw_pure rfl rfl; (intro w'; go_simp <;> exact rfl); go_frame) | (apply Free.cw_steady rfl rfl rfl; (intro w' hS; have q0 := Free.sx_cell hS h1 (fun _ _ hT => Or.elim hT (fun h => hne.1 h.2) (fun h => hne.2.2 h.2)); have q1 := Free.sx_cell hS k0 (fun _ _ hT => Or.elim hT (fun h => hgb h.2) (fun h => hgr h.2)); have q2 := Free.sx_cell hS c0 (fun j hp hT => Or.elim hT (fun h => hne.2.1 h.2) (fun h => by obtain ⟨rfl, _⟩ := h; exact absurd hp (by decide +kernel))); go_simp <;> exact rfl); go_frame) | (refine Free.cw_skip rfl ?_; go_frame)))
    refine Free.cw_loud rfl rfl (fun K hK => ?_)
    go_wp2
    refine hK _ _ rfl (Free.KeepsP.setCell _ (.inr ⟨trivial, rfl⟩) _) ?_
    clear hK K
    (repeat (first | (apply Free.cw_pure rfl rfl; (intro w'; go_simp <;> exact rfl); go_frame) | (apply Free.cw_steady rfl rfl rfl; (intro w' hS; have q0 := Free.sx_cell hS h1 (fun _ _ hT => Or.elim hT (fun h => hne.1 h.2) (fun h => hne.2.2 h.2)); go_simp <;> exact rfl); go_frame) | (refine Free.cw_skip rfl ?_; go_frame)))
    refine Free.cw_nil ?_
    go_wp2
    go_ret
    have hbr1 : (w.setCell ⟨b2, 0, none⟩ (.bool x)).heap[br]? = some (.cells #[.slice (some ⟨g, o, none⟩) (N + 1) cp, .int .i64 0] 126 (0, 0)) := (Below.heap_setCell _ _ _ _ (by simp; omega)).trans hhN.out.1
    have hb21 : (w.setCell ⟨b2, 0, none⟩ (.bool x)).heap[b2]? = some (.cells #[.bool x] 4 (0, 0)) := one_setCell hh2.out
    refine ⟨rfl, (Below.heap_setCell _ _ _ _ (by simp; omega)).trans hb21, ⟨_, set2_0 hbr1 _, htl.out.kv ((KV.setCell w _ e0 (by simp)).trans ((KV.setCell _ _ (cell2_of hbr1).1 (by simp)).trans (KV.drew _)))⟩, (((Keeps.refl _ w).setCell (.inr (by simp)) _).setCell (.inr (by simp)) _).drew⟩
set_option maxRecDepth 100000 in
set_option maxHeartbeats 2000000 in
theorem bool_ok (w : World) (br : Nat) (v : Value) (l rest : List UInt8) (x : Bool) (h : Rd w br v l 0) (hr : readB l = some (x, rest)) :
    Calls Tryz.prog 30 #[.pointer (some ⟨br, 0, none⟩)] w fun en w' => en = .returned (.bool x) ∧ (∃ v', Rd w' br v' rest 0) ∧ Keeps [br] w w' := by
  obtain ⟨c0, c1, f0, f1, hlt⟩ := cell2_of h.1
  have hne : ¬ w.heap.size = br := by omega
  have hne2 : ¬ w.heap.size + 1 = br := by omega
  obtain ⟨a0, cp0, rfl⟩ := h.2.form
  have hkA : Keeps [] w ((w.alloc (.cells #[.pointer (some ⟨br, 0, none⟩)] 57)).alloc (.cells #[.bool false] 4)) := ((Keeps.refl [] w).alloc _).alloc _
  have hc := bool1_ok _ br w.heap.size (w.heap.size + 1) _ l rest x (h.keeps hkA) (by simp) (two_boxesB w _) ⟨by omega, by omega, by omega⟩ hr
  replace h := Lib.hid h
  replace hkA := Lib.hid hkA
  replace hc := Lib.hid hc
  replace hr := Lib.hid hr
  clear c0
  go_enter Tryz.func30, Tryz.ntmps30
  go_wp2_with (first
    | (go_at_call 80; refine hc.out.mono ?_; rintro e w3 ⟨rfl, hb2, ⟨v3, hR3⟩, hk3⟩; obtain ⟨d0, d1, g0, g1, hlt3⟩ := cell2_of hR3.1; obtain ⟨e0, _, hlt4⟩ := cell1_of hb2; have hk4 := Lib.hid hk3; have hR4 := Lib.hid hR3; clear hk3 hR3 hb2)
    | go_in)
  go_ret
  exact ⟨rfl, ⟨v3, rd_set_ok hR4.out 0⟩, (hkA.out.of_nil.trans' hk4.out (by simp)).setCell (.inr (by simp)) _⟩
set_option maxRecDepth 100000 in
set_option maxHeartbeats 2000000 in
theorem bool_bad (w : World) (br : Nat) (v : Value) (l : List UInt8) (h : Rd w br v l 0) (hr : readB l = none) :
    Calls Tryz.prog 30 #[.pointer (some ⟨br, 0, none⟩)] w fun en w' => en = .returned (.bool false) ∧ Rd w' br (.slice none 0 0) [] 11 ∧ Keeps [br] w w' := by
  obtain ⟨c0, c1, f0, f1, hlt⟩ := cell2_of h.1
  have hne : ¬ w.heap.size = br := by omega
  have hne2 : ¬ w.heap.size + 1 = br := by omega
  obtain ⟨a0, cp0, rfl⟩ := h.2.form
  have hkA : Keeps [] w ((w.alloc (.cells #[.pointer (some ⟨br, 0, none⟩)] 57)).alloc (.cells #[.bool false] 4)) := ((Keeps.refl [] w).alloc _).alloc _
  have hc := bool1_bad _ br w.heap.size (w.heap.size + 1) _ l (h.keeps hkA) (by simp) hr
  have h2 := two_boxesB w (.pointer (some ⟨br, 0, none⟩))
  replace h2 := Lib.hid h2
  replace h := Lib.hid h
  replace hkA := Lib.hid hkA
  replace hc := Lib.hid hc
  replace hr := Lib.hid hr
  clear c0
  go_enter Tryz.func30, Tryz.ntmps30
  go_wp2_with (first
    | (go_at_call 80; refine hc.out.mono ?_; rintro e w3 ⟨rfl, hk3⟩; have hR3 := (h.out.keeps hkA.out).keeps hk3; obtain ⟨d0, d1, g0, g1, hlt3⟩ := cell2_of hR3.1; have hk4 := Lib.hid hk3; have hR4 := Lib.hid hR3; have h22 := Lib.hid ((hk3.block _ (by simp) (by simp)).trans h2.out); obtain ⟨e0, _, hlt4⟩ := cell1_of h22.out; clear hk3 hR3)
    | go_in)
  go_ret
  exact ⟨rfl, rd_set_bad hR4.out 11, (((hkA.out.trans hk4.out).of_nil).setCell (.inr (by simp)) _).setCell (.inr (by simp)) _⟩
set_option maxRecDepth 100000 in
set_option maxHeartbeats 2000000 in
theorem bool_err (w : World) (br : Nat) (v : Value) (l : List UInt8) (e : Int) (h : Rd w br v l e) (he : e ≠ 0) :
    Calls Tryz.prog 30 #[.pointer (some ⟨br, 0, none⟩)] w fun en w' => en = .returned (.bool false) ∧ Keeps [] w w' := by
  obtain ⟨c0, c1, f0, f1, hlt⟩ := cell2_of h.1
  have hne : ¬ w.heap.size = br := by omega
  have hne2 : ¬ w.heap.size + 1 = br := by omega
  have he2 : (e == 0) = false := by simp [he]
  obtain ⟨a0, cp0, rfl⟩ := h.2.form
  have hkA : Keeps [] w ((w.alloc (.cells #[.pointer (some ⟨br, 0, none⟩)] 57)).alloc (.cells #[.bool false] 4)) := ((Keeps.refl [] w).alloc _).alloc _
  clear h c0 he
  go_enter Tryz.func30, Tryz.ntmps30
  go_wp2_with (first | go_in)
  go_ret
  exact ⟨rfl, hkA⟩
theorem boolS_c (w : World) (br : Nat) (s : RS) (h : RdS w br s) :
    Calls Tryz.prog 30 #[.pointer (some ⟨br, 0, none⟩)] w fun en w' => en = .returned (.bool (rB s).1) ∧ RdS w' br (rB s).2 ∧ Keeps [br] w w' := by
  obtain ⟨l, e⟩ := s
  obtain ⟨v, h⟩ := h
  by_cases he : e = 0
  · subst he
    cases hr : readB l with
    | none =>
      rw [show rB (l, 0) = (false, ([], 11)) by unfold rB; rw [if_pos rfl]; simp only [hr]]
      exact (bool_bad w br v l h hr).mono fun _ _ ⟨h1, h2, h3⟩ => ⟨h1, ⟨_, h2⟩, h3⟩
    | some p =>
      obtain ⟨x, r⟩ := p
      rw [show rB (l, 0) = (x, (r, 0)) by unfold rB; rw [if_pos rfl]; simp only [hr]]
      exact bool_ok w br v l r x h hr
  · refine (bool_err w br v l e h he).mono fun en w' ⟨h1, h2⟩ => ?_
    rw [show rB (l, e) = (false, (l, e)) by unfold rB; rw [if_neg he]]
    exact ⟨h1, ⟨v, h.keeps h2⟩, h2.of_nil⟩
end Go.Proofs.YtiplgpefapeapaaGreat

namespace Go.Proofs.YtiplgpefapeapaaGreat
open Go.RowKit

def cEK (K n : Nat) (l : List UInt8) : Int := if K < n then 8 else if l.length < n then 11 else 0
def rCK (K : Nat) (l : List UInt8) : Nat × RS := match readU l with | some (n, r) => if cEK K n r = 0 then (n, (r, 0)) else (0, ([], cEK K n r)) | none => (0, ([], 11))
set_option maxRecDepth 100000 in
set_option maxHeartbeats 2000000 in
theorem countG1_c (K : Nat) (hK : K ≤ 1099511627776) (w : World) (br b1 b2 b3 : Nat) (v : Value) (l : List UInt8) (n : Nat) (h : Rd w br v l 0) (h1 : w.cell? ⟨b1, 0, none⟩ = some (.int .i64 (K : Nat))) (h2 : w.cell? ⟨b2, 0, none⟩ = some (.int .u64 n)) (h3 : w.cell? ⟨b3, 0, none⟩ = some (.pointer (some ⟨br, 0, none⟩))) :
    Calls Tryz.prog 107 #[.pointer (some ⟨b1, 0, none⟩), .pointer (some ⟨b2, 0, none⟩), .pointer (some ⟨b3, 0, none⟩)] w fun en w' => en = .returned (.int .i64 (cEK K n l)) ∧ Keeps [] w w' := by
  obtain ⟨c0, c1, f0, f1, hlt⟩ := cell2_of h.1
  obtain ⟨a0, cp0, rfl⟩ := h.2.form
  have hmx := h.2.cap
  clear h
  obtain ⟨N, hN⟩ : ∃ N, l.length = N := ⟨_, rfl⟩
  rw [hN] at c0 hmx
  have hNN : (N : Int) ≤ 9223372036854775807 := by unfold maxLen at hmx; omega
  replace hN := Lib.hid hN
  have hKw : IntKind.u64.wrap (K : Int) = K := by rw [IntKind.wrap_u64]; omega
  have hK0 : decide ((K : Int) < 0) = false := by simp
  have hwr : IntKind.u64.wrap (N : Int) = N := by rw [IntKind.wrap_u64]; omega
  by_cases hbig : K < n
  · have hd : (K : Int) < (n : Int) := by omega
    go_enter Tryz.func107, Tryz.ntmps107
    go_wp2
    go_ret
    exact ⟨by unfold cEK; rw [if_pos hbig]; rfl, Keeps.refl _ _⟩
  · have hd : decide ((K : Int) < (n : Int)) = false := by simp; omega
    by_cases hb2 : N < n
    · have hd2 : (N : Int) < (n : Int) := by omega
      go_enter Tryz.func107, Tryz.ntmps107
      go_wp2
      (refine wp_region_quiet_lit (by kernel_rfl) (by kernel_rfl) ?_; (repeat (first | go_big_quiet_step (fail) | quiet_step (fail))); with_reducible refine wpQuiet_nil ?_; intro _ hw'; obtain ⟨nq, hw''⟩ := hw'; subst hw'')
      go_wp2
      go_ret
      exact ⟨by unfold cEK; rw [if_neg hbig, hN.out, if_pos hb2]; rfl, (Keeps.refl _ _).drewN _⟩
    · have hd2 : decide ((N : Int) < (n : Int)) = false := by simp; omega
      go_enter Tryz.func107, Tryz.ntmps107
      go_wp2
      (refine wp_region_quiet_lit (by kernel_rfl) (by kernel_rfl) ?_; (repeat (first | go_big_quiet_step (fail) | quiet_step (fail))); with_reducible refine wpQuiet_nil ?_; intro _ hw'; obtain ⟨nq, hw''⟩ := hw'; subst hw'')
      go_wp2
      go_ret
      exact ⟨by unfold cEK; rw [if_neg hbig, hN.out, if_neg hb2]; rfl, (Keeps.refl _ _).drewN _⟩
set_option maxRecDepth 100000 in
set_option maxHeartbeats 2000000 in
theorem countG_bad (K : Nat) (hK : K ≤ 1099511627776) (w : World) (br : Nat) (v : Value) (l : List UInt8) (h : Rd w br v l 0) (hr : readU l = none) :
    Calls Tryz.prog 79 #[.pointer (some ⟨br, 0, none⟩), .int .i64 (K : Nat)] w fun en w' => en = .returned (.int .i64 0) ∧ Rd w' br (.slice none 0 0) [] 11 ∧ Keeps [br] w w' := by
  have hlt := (cell2_of h.1).2.2.2.2
  have hne : ¬ w.heap.size = br := by omega
  have hne2 : ¬ w.heap.size + 1 = br := by omega
  have hkA : Keeps [] w ((w.alloc (.cells #[.pointer (some ⟨br, 0, none⟩)] 57)).alloc (.cells #[.int .i64 (K : Nat)] 3)) := ((Keeps.refl [] w).alloc _).alloc _
  have hx1 := heap_alloc_new w (.cells #[.pointer (some ⟨br, 0, none⟩)] 57)
  have hx2 := (((Keeps.refl [] (w.alloc (.cells #[.pointer (some ⟨br, 0, none⟩)] 57))).alloc (.cells #[.int .i64 (K : Nat)] 3)).block _ (lt_of_block hx1) (by simp)).trans hx1
  have hRA := h.keeps hkA
  replace hRA := Lib.hid hRA
  replace hkA := Lib.hid hkA
  replace hr := Lib.hid hr
  clear h hx1
  go_enter Tryz.func79, Tryz.ntmps79
  go_wp2_with fail
  refine (uint_bad _ br v l hRA.out hr.out).mono ?_
  rintro e w1 ⟨rfl, hR1, hk1⟩
  have hx3 := (hk1.block _ (lt_of_block hx2) (by simpa using hne)).trans hx2
  obtain ⟨z0, zf, zlt⟩ := cell1_of hx3
  have hk01 := Lib.hid (hkA.out.of_nil.trans hk1)
  obtain ⟨c0, c1, f0, f1, hlt1⟩ := cell2_of hR1.1
  have hkB : Keeps [] w1 (w1.alloc (.cells #[.int .u64 0] 26)) := (Keeps.refl [] w1).alloc _
  have hne3 : ¬ w1.heap.size = br := by omega
  have hne4 : ¬ w1.heap.size = w.heap.size := by omega
  replace hR1 := Lib.hid hR1
  replace hkB := Lib.hid hkB
  clear hk1 hx2 hx3
  go_wp2_with (first | go_in)
  go_ret
  exact ⟨rfl, hR1.out.keeps hkB.out, hk01.out.trans hkB.out.of_nil⟩
set_option maxRecDepth 100000 in
set_option maxHeartbeats 4000000 in
theorem countG_ok (K : Nat) (hK : K ≤ 1099511627776) (w : World) (br : Nat) (v : Value) (l r : List UInt8) (n : Nat) (h : Rd w br v l 0) (hr : readU l = some (n, r)) (hn : n < 18446744073709551616) :
    Calls Tryz.prog 79 #[.pointer (some ⟨br, 0, none⟩), .int .i64 (K : Nat)] w fun en w' => en = .returned (.int .i64 (rCK K l).1) ∧ RdS w' br (rCK K l).2 ∧ Keeps [br] w w' := by
  have hrc : rCK K l = if cEK K n r = 0 then (n, (r, 0)) else (0, ([], cEK K n r)) := by unfold rCK; simp only [hr]
  have hlt := (cell2_of h.1).2.2.2.2
  have hne : ¬ w.heap.size = br := by omega
  have hne2 : ¬ w.heap.size + 1 = br := by omega
  have hkA : Keeps [] w ((w.alloc (.cells #[.pointer (some ⟨br, 0, none⟩)] 57)).alloc (.cells #[.int .i64 (K : Nat)] 3)) := ((Keeps.refl [] w).alloc _).alloc _
  have hx1 := heap_alloc_new w (.cells #[.pointer (some ⟨br, 0, none⟩)] 57)
  have hx2 := (((Keeps.refl [] (w.alloc (.cells #[.pointer (some ⟨br, 0, none⟩)] 57))).alloc (.cells #[.int .i64 (K : Nat)] 3)).block _ (lt_of_block hx1) (by simp)).trans hx1
  have hm2 := heap_alloc_new (w.alloc (.cells #[.pointer (some ⟨br, 0, none⟩)] 57)) (.cells #[.int .i64 (K : Nat)] 3)
  rw [show (w.alloc (.cells #[.pointer (some ⟨br, 0, none⟩)] 57)).heap.size = w.heap.size + 1 by simp] at hm2
  have hRA := h.keeps hkA
  replace hRA := Lib.hid hRA
  replace hkA := Lib.hid hkA
  replace hr := Lib.hid hr
  replace hrc := Lib.hid hrc
  clear h hx1
  go_enter Tryz.func79, Tryz.ntmps79
  go_wp2_with fail
  refine (uint_ok _ br v l r n hRA.out hr.out).mono ?_
  rintro e w1 ⟨rfl, ⟨v1, hR1⟩, hk1⟩
  have hx3 := (hk1.block _ (lt_of_block hx2) (by simpa using hne)).trans hx2
  have hm3 := (hk1.block _ (lt_of_block hm2) (by simpa using hne2)).trans hm2
  have hkB : Keeps [] w1 (w1.alloc (.cells #[.int .u64 n] 26)) := (Keeps.refl [] w1).alloc _
  have hx4 := (hkB.block _ (lt_of_block hx3) (by simp)).trans hx3
  have hm4 := (hkB.block _ (lt_of_block hm3) (by simp)).trans hm3
  have hn4 := heap_alloc_new w1 (.cells #[.int .u64 n] 26)
  have hR2 := hR1.keeps hkB
  have hk02 := hkA.out.of_nil.trans (hk1.trans hkB.of_nil)
  obtain ⟨z0, zf, zlt⟩ := cell1_of hx3
  obtain ⟨q0, qf, qlt⟩ := cell1_of hn4
  obtain ⟨c0, c1, f0, f1, hlt1⟩ := cell2_of hR1.1
  have hne3 : ¬ w1.heap.size = br := by omega
  have hne4 : ¬ w1.heap.size = w.heap.size := by omega
  have hc := countG1_c K hK _ br (w.heap.size + 1) w1.heap.size w.heap.size v1 r n hR2 (cell1_of hm4).1 q0 (cell1_of hx4).1
  obtain ⟨E, hE⟩ : ∃ E, cEK K n r = E := ⟨_, rfl⟩
  obtain ⟨a1, cp1, rfl⟩ := hR1.2.form
  rw [hE] at hc
  by_cases hE0 : E = 0
  · subst hE0
    have hn63 : (n : Int) ≤ K := by
      unfold cEK at hE
      split at hE
      · cases hE
      · omega
    replace hE := Lib.hid hE
    replace hR1 := Lib.hid hR1
    replace hR2 := Lib.hid hR2
    replace hkB := Lib.hid hkB
    replace hk02 := Lib.hid hk02
    replace hc := Lib.hid hc
    replace hn4 := Lib.hid hn4
    clear hk1 hx2 hx3 hx4 hm2 hm3 hm4 c0 q0 qf qlt
    go_wp2_with (first
      | (go_at_call 107; refine hc.out.mono ?_; rintro e w3 ⟨rfl, hk3⟩; have hR3 := hR2.out.keeps hk3; obtain ⟨d0, d1, g0, g1, hlt3⟩ := cell2_of hR3.1; have hk4 := Lib.hid hk3; have hR4 := Lib.hid hR3; have hn5 := Lib.hid ((hk3.block _ (lt_of_block hn4.out) (by simp)).trans hn4.out); obtain ⟨e0, _, hlt4⟩ := cell1_of hn5.out; clear hk3 hR3)
      | go_in)
    go_ret
    rw [hrc.out, if_pos hE.out]
    exact ⟨rfl, ⟨_, rd_set_ok hR4.out 0⟩, (hk02.out.trans hk4.out.of_nil).setCell (.inr (by simp)) _⟩
  · have hEb : (E == 0) = false := by simp [hE0]
    replace hE0 := Lib.hid hE0
    replace hE := Lib.hid hE
    replace hR1 := Lib.hid hR1
    replace hR2 := Lib.hid hR2
    replace hkB := Lib.hid hkB
    replace hk02 := Lib.hid hk02
    replace hc := Lib.hid hc
    replace hn4 := Lib.hid hn4
    clear hk1 hx2 hx3 hx4 hm2 hm3 hm4 c0 q0 qf qlt
    go_wp2_with (first
      | (go_at_call 107; refine hc.out.mono ?_; rintro e w3 ⟨rfl, hk3⟩; have hR3 := hR2.out.keeps hk3; obtain ⟨d0, d1, g0, g1, hlt3⟩ := cell2_of hR3.1; have hk4 := Lib.hid hk3; have hR4 := Lib.hid hR3; have hn5 := Lib.hid ((hk3.block _ (lt_of_block hn4.out) (by simp)).trans hn4.out); obtain ⟨e0, _, hlt4⟩ := cell1_of hn5.out; clear hk3 hR3)
      | go_in)
    go_ret
    rw [hrc.out, if_neg (by rw [hE.out]; exact hE0.out)]
    refine ⟨rfl, ⟨.slice none 0 0, ?_⟩, ((hk02.out.trans hk4.out.of_nil).setCell (.inr (by simp)) _).setCell (.inr (by simp)) _⟩
    rw [hE.out]
    exact rd_set_bad hR4.out E
theorem readU_lt {l r : List UInt8} {n : Nat} (h : readU l = some (n, r)) : n < 18446744073709551616 := by
  cases l with
  | nil => cases h
  | cons k t =>
    rcases Classical.em (k.toNat ≤ 8 ∧ k.toNat ≤ t.length ∧ (0 < k.toNat → t.headD 1 ≠ 0)) with hc | hc
    · rw [readU, if_pos hc] at h
      simp only [Option.some.injEq, Prod.mk.injEq] at h
      rw [← h.1]
      have := valU_lt k.toNat (t.take k.toNat) (by rw [List.length_take]; omega)
      have h2 : (256 : Nat) ^ k.toNat ≤ 256 ^ 8 := Nat.pow_le_pow_right (by omega) hc.1
      omega
    · rw [readU, if_neg hc] at h; cases h
theorem countG_c (K : Nat) (hK : K ≤ 1099511627776) (w : World) (br : Nat) (l : List UInt8) (h : RdS w br (l, 0)) :
    Calls Tryz.prog 79 #[.pointer (some ⟨br, 0, none⟩), .int .i64 (K : Nat)] w fun en w' => en = .returned (.int .i64 (rCK K l).1) ∧ RdS w' br (rCK K l).2 ∧ Keeps [br] w w' := by
  obtain ⟨v, h⟩ := h
  cases hr : readU l with
  | none =>
    rw [show rCK K l = (0, ([], 11)) by unfold rCK; simp only [hr]]
    exact (countG_bad K hK w br v l h hr).mono fun _ _ ⟨h1, h2, h3⟩ => ⟨h1, ⟨_, h2⟩, h3⟩
  | some p =>
    obtain ⟨n, r⟩ := p
    exact countG_ok K hK w br v l r n h hr (readU_lt hr)
end Go.Proofs.YtiplgpefapeapaaGreat

namespace Go.Proofs.YtiplgpefapeapaaGreat
open Go.RowKit Go.ChangeShapes

/-- The integer that a number on the wire stands for. -/
def uzig (n : Nat) : Int := if n % 2 = 0 then ((n / 2 : Nat) : Int) else -((n / 2 : Nat) : Int) - 1
def rI (s : RS) : Int × RS := (uzig (rU s).1, (rU s).2)
theorem rU_lt (s : RS) : (rU s).1 < 18446744073709551616 := by
  unfold rU
  split
  · split
    · rename_i x r h; exact readU_lt h
    · show (0 : Nat) < _; decide
  · show (0 : Nat) < _; decide
theorem xor_zero (k : Nat) (hk : k < 9223372036854775808) : bits .xor .i64 (k : Int) 0 = k := by
  show IntKind.i64.wrap ((BitVec.ofInt 64 (k : Int) ^^^ BitVec.ofInt 64 0).toNat : Int) = _
  have h2 : (BitVec.ofInt 64 (k : Int)).toNat = k := by
    rw [BitVec.ofInt_natCast, BitVec.toNat_ofNat]; exact Nat.mod_eq_of_lt (by omega)
  have h3 : (BitVec.ofInt 64 0).toNat = 0 := by decide
  rw [BitVec.toNat_xor, h2, h3, Nat.xor_zero, IntKind.wrap_i64]
  omega
theorem xor_ones (k : Nat) (hk : k < 9223372036854775808) : bits .xor .i64 (k : Int) (-1) = -(k : Int) - 1 := by
  have h := Go.Lib.i64_not k hk
  rw [← h]
  simp only [bits, BitVec.xor_comm]
set_option maxRecDepth 100000 in
set_option maxHeartbeats 2000000 in
theorem intS_c (w : World) (br : Nat) (s : RS) (h : RdS w br s) :
    Calls Tryz.prog 25 #[.pointer (some ⟨br, 0, none⟩)] w fun en w' => en = .returned (.int .i64 (rI s).1) ∧ RdS w' br (rI s).2 ∧ Keeps [br] w w' := by
  have hc := uintS_c w br s h
  have hx := rU_lt s
  unfold rI
  simp only
  generalize (rU s).1 = n at *
  generalize (rU s).2 = s2 at *
  replace hc := Lib.hid hc
  clear h
  by_cases h0 : n % 2 = 0
  · obtain ⟨k, rfl⟩ : ∃ k, n = 2 * k := ⟨n / 2, by omega⟩
    have hu : uzig (2 * k) = k := by unfold uzig; rw [if_pos h0]; omega
    have hb : bits .and .u64 (2 * (k : Int)) 1 = 0 := by rw [Go.Lib.u64_and1 _ (by omega) (by omega)]; omega
    have hb2 : bits .xor .i64 (k : Int) 0 = k := xor_zero k (by omega)
    rw [hu]
    go_enter Tryz.func25, Tryz.ntmps25
    go_wp2_with fail
    refine hc.out.mono ?_
    rintro e w' ⟨rfl, hR, hk⟩
    replace hR := Lib.hid hR
    replace hk := Lib.hid hk
    go_wp2
    go_ret
    exact ⟨rfl, hR.out, hk.out⟩
  · obtain ⟨k, rfl⟩ : ∃ k, n = 2 * k + 1 := ⟨n / 2, by omega⟩
    have hu : uzig (2 * k + 1) = -(k : Int) - 1 := by unfold uzig; rw [if_neg h0]; omega
    have hb : bits .and .u64 (2 * (k : Int) + 1) 1 = 1 := by rw [Go.Lib.u64_and1 _ (by omega) (by omega)]; omega
    have hb2 : bits .xor .i64 ((2 * (k : Int) + 1) / 2) (-1) = -(k : Int) - 1 := by
      rw [show (2 * (k : Int) + 1) / 2 = k by omega]
      exact xor_ones k (by omega)
    rw [hu]
    go_enter Tryz.func25, Tryz.ntmps25
    go_wp2_with fail
    refine hc.out.mono ?_
    rintro e w' ⟨rfl, hR, hk⟩
    replace hR := Lib.hid hR
    replace hk := Lib.hid hk
    go_wp2
    go_ret
    exact ⟨rfl, hR.out, hk.out⟩
def rCS (K : Nat) (s : RS) : Nat × RS := if s.2 = 0 then rCK K s.1 else (0, s)
set_option maxRecDepth 100000 in
set_option maxHeartbeats 2000000 in
theorem countG_err (K : Nat) (w : World) (br : Nat) (v : Value) (l : List UInt8) (e : Int) (h : Rd w br v l e) (he : e ≠ 0) :
    Calls Tryz.prog 79 #[.pointer (some ⟨br, 0, none⟩), .int .i64 (K : Nat)] w fun en w' => en = .returned (.int .i64 0) ∧ Keeps [] w w' := by
  have hlt := (cell2_of h.1).2.2.2.2
  have hne : ¬ w.heap.size = br := by omega
  have hne2 : ¬ w.heap.size + 1 = br := by omega
  have he2 : (e == 0) = false := by simp [he]
  obtain ⟨a0, cp0, rfl⟩ := h.2.form
  have hkA : Keeps [] w ((w.alloc (.cells #[.pointer (some ⟨br, 0, none⟩)] 57)).alloc (.cells #[.int .i64 (K : Nat)] 3)) := ((Keeps.refl [] w).alloc _).alloc _
  have hx1 := heap_alloc_new w (.cells #[.pointer (some ⟨br, 0, none⟩)] 57)
  have hx2 := (((Keeps.refl [] (w.alloc (.cells #[.pointer (some ⟨br, 0, none⟩)] 57))).alloc (.cells #[.int .i64 (K : Nat)] 3)).block _ (lt_of_block hx1) (by simp)).trans hx1
  have hRA := h.keeps hkA
  replace hRA := Lib.hid hRA
  replace hkA := Lib.hid hkA
  replace he := Lib.hid he
  clear h hx1
  go_enter Tryz.func79, Tryz.ntmps79
  go_wp2_with fail
  refine (uint_err _ br _ l e hRA.out he.out).mono ?_
  rintro en w1 ⟨rfl, hk1⟩
  have hR1 := hRA.out.keeps hk1
  have hx3 := (hk1.block _ (lt_of_block hx2) (by simp)).trans hx2
  obtain ⟨z0, zf, zlt⟩ := cell1_of hx3
  have hk01 := Lib.hid (hkA.out.trans hk1)
  obtain ⟨c0, c1, f0, f1, hlt1⟩ := cell2_of hR1.1
  have hkB : Keeps [] w1 (w1.alloc (.cells #[.int .u64 0] 26)) := (Keeps.refl [] w1).alloc _
  have hne3 : ¬ w1.heap.size = br := by omega
  have hne4 : ¬ w1.heap.size = w.heap.size := by omega
  replace hkB := Lib.hid hkB
  clear hk1 hx2 hx3 hR1 hRA
  go_wp2_with (first | go_in)
  go_ret
  exact ⟨rfl, hk01.out.trans hkB.out⟩
theorem countS_c (K : Nat) (hK : K ≤ 1099511627776) (w : World) (br : Nat) (s : RS) (h : RdS w br s) :
    Calls Tryz.prog 79 #[.pointer (some ⟨br, 0, none⟩), .int .i64 (K : Nat)] w fun en w' => en = .returned (.int .i64 (rCS K s).1) ∧ RdS w' br (rCS K s).2 ∧ Keeps [br] w w' := by
  obtain ⟨l, e⟩ := s
  by_cases he : e = 0
  · subst he
    rw [show rCS K (l, 0) = rCK K l from if_pos rfl]
    exact countG_c K hK w br l h
  · obtain ⟨v, h⟩ := h
    rw [show rCS K (l, e) = (0, (l, e)) from if_neg he]
    exact (countG_err K w br v l e h he).mono fun en w' ⟨h1, h2⟩ => ⟨h1, ⟨v, h.keeps h2⟩, h2.of_nil⟩
end Go.Proofs.YtiplgpefapeapaaGreat

namespace Go.Proofs.YtiplgpefapeapaaGreat
open Go.RowKit Go.ChangeShapes

/-- The trace's own numbers fit. -/
structure Tr.Num (t : Tr) : Prop where
  im : W64 t.im
  is : W64 t.is
  s0 : W64 t.st.1
  s1 : t.st.2.1 < 18446744073709551616
  s2 : W64 t.st.2.2
end Go.Proofs.YtiplgpefapeapaaGreat

namespace Go.Proofs.YtiplgpefapeapaaGreat
open Go.RowKit
def PendPost (w : World) (t : Tr) (m : Int) (e : Ending) (w' : World) : Prop :=
  ∃ r : Int, e = .returned (.int .i64 r) ∧ Keeps [] w w' ∧ ((t.state ≠ 1 ∧ r = 9) ∨ (t.state = 1 ∧ ∃ P Y p, SortedA t Y ∧ ClaimsP t Y P ∧ P[t.ag.length]? = some p ∧ r = (if p.m = m then 0 else 1)))
set_option maxRecDepth 100000 in
set_option maxHeartbeats 4000000 in
theorem pending_c (w : World) (B bt bm : Nat) (vo vh vg : Value) (t : Tr) (m : Int) (h : TrM w B bt bm vo vh vg t) (hl : t.qs.length ≤ 1000) (hag : t.state = 1 → ∀ P Y, SortedA t Y → ClaimsP t Y P → t.ag.length < P.length) :
    Calls Tryz.prog 64 #[.pointer (some ⟨bt, 0, none⟩), .int .i64 m] w (PendPost w t m) := by
  have hc := claim_c w B bt bm vo vh vg t h hl hag
  replace hc := Lib.hid hc
  clear h hag
  go_enter Tryz.func64, Tryz.ntmps64
  go_wp2_with fail
  refine hc.out.mono ?_
  rintro e w1 ⟨⟨x0, x1, ⟨a1, a2, a3⟩, ⟨b1, b2, b3⟩, ⟨c1, c2, c3⟩⟩, p, rfl, hcr, hk, hcase⟩
  have hx : x0 = p.m := hcr.m
  subst hx
  simp only [clV, slv]
  replace hk := Lib.hid hk
  clear hcr
  by_cases hs : t.state = 1
  · have b : (t.state == 1) = true := by simpa using hs
    have hcase2 : ∃ P Y, SortedA t Y ∧ ClaimsP t Y P ∧ P[t.ag.length]? = some p := by
      rcases hcase with ⟨h1, _⟩ | ⟨_, h2⟩
      · exact absurd hs h1
      · exact h2
    rw [b]
    replace hcase2 := Lib.hid hcase2
    replace hs := Lib.hid hs
    clear hcase b
    by_cases hm : p.m = m
    · subst hm
      go_wp2
      go_ret
      obtain ⟨P, Y, h1, h2, h3⟩ := hcase2.out
      exact ⟨0, rfl, hk.out.alloc _, .inr ⟨hs.out, P, Y, p, h1, h2, h3, (if_pos rfl).symm⟩⟩
    · have bm : (p.m != m) = true := by simpa using hm
      go_wp2
      go_ret
      obtain ⟨P, Y, h1, h2, h3⟩ := hcase2.out
      exact ⟨1, rfl, hk.out.alloc _, .inr ⟨hs.out, P, Y, p, h1, h2, h3, (if_neg hm).symm⟩⟩
  · have b : (t.state == 1) = false := by simpa using hs
    rw [b]
    replace hs := Lib.hid hs
    clear hcase b
    go_wp2
    go_ret
    exact ⟨9, rfl, hk.out.alloc _, .inl ⟨hs.out, rfl⟩⟩
end Go.Proofs.YtiplgpefapeapaaGreat

namespace Go.Proofs.YtiplgpefapeapaaGreat
open Go.RowKit
namespace TrM
variable {w w' : World} {B bt bm : Nat} {vo vh vg : Value} {t : Tr}
theorem setAg (h : TrM w B bt bm vo vh vg t) {vg' : Value} {m : Int} (hG : Grw w w' vg vg') (hO : shZ.O w' B 3 vg' (t.ag ++ [m])) :
    TrM (w'.setCell ⟨bt, 10, none⟩ vg') B bt bm vo vh vg' { t with ag := t.ag ++ [m] } ∧ Keeps [bt] w' (w'.setCell ⟨bt, 10, none⟩ vg') ∧ KI w w' ∧ KI w' (w'.setCell ⟨bt, 10, none⟩ vg') := by
  obtain ⟨n1, n2, n3, n4⟩ := h.ne_bt
  obtain ⟨X0, hX0, hX0L⟩ := h.hi
  obtain ⟨R, hR, hRL⟩ := h.mp
  have hk := hG.keepsO
  have hi : KI w w' := hk.ki (fun b hb cs f e => by
    obtain ⟨cs', hc⟩ := h.ag.tag b (by simpa using hb)
    exact tag_ne hc e (by decide) rfl)
  have hne : ∀ (e : TypeId) (b : Nat) (cs : Array Value), w.heap[b]? = some (Obj.cells cs e (0, 0)) → 3 ≠ e → b ∉ vg.ownBlock.toList := fun e b cs hb hn hm => by
    obtain ⟨cs', hc⟩ := h.ag.tag b (by simpa using hm)
    exact tag_ne hc hb hn rfl
  have hblk : w'.heap[bt]? = _ := (hk.block bt h.lt.1 (hne _ _ _ h.blk (by decide))).trans h.blk
  have hhi : shA.O w' B tA vh X0 := hX0.keepS hk (fun b hb e => by obtain ⟨cs, hc⟩ := hX0.tag b e; exact hne _ _ _ hc (by decide) hb)
  have hop : shQ.O w' B tQ vo t.op := h.op.keepS hk (fun b hb e => by obtain ⟨cs, hc⟩ := h.op.tag b e; exact hne _ _ _ hc (by decide) hb)
  have hR' : MapS.M ktQ aV w' bm R := hR.kept ktQ hk (fun hm => by
    obtain ⟨cs', hc⟩ := h.ag.tag bm (by simpa using hm)
    obtain ⟨es, c, hmm⟩ := hR.isMap
    rw [hc] at hmm; cases hmm)
  obtain ⟨hk2, hi2⟩ := Keeps.setT (o := 10) hblk vg'
  have hnv : vg'.ownBlock ≠ some bt := fun e => by
    obtain ⟨cs, hc⟩ := hO.tag bt e
    exact tag_ne hblk hc (by decide) rfl
  refine ⟨⟨?_, hop.keepS hk2 (by simpa using n2), ⟨X0, hhi.keepS hk2 (by simpa using n3), (hX0L.ki hi).ki hi2⟩, hO.keepS hk2 (by simpa using hnv), ⟨R, hR'.kept ktQ hk2 (by simpa using n1), (hRL.ki hi).ki hi2⟩, ⟨h.inv.ok, h.inv.nd, h.inv.rq, h.inv.rk, h.inv.hi, h.inv.ro⟩, h.bB⟩, hk2, hi, hi2⟩
  have := setCs hblk 10 vg'
  simpa using this
theorem mvAg {vg' : Value} {m : Int} (h : TrM w B bt bm vo vh vg t) (hG : Grw w w' vg vg') (hO : shZ.O w' B 3 vg' (t.ag ++ [m])) :
    Mv (ownT bt bm vo vh vg) (ownT bt bm vo vh vg') w (w'.setCell ⟨bt, 10, none⟩ vg') := by
  obtain ⟨_, hk, hi, hi2⟩ := h.setAg hG hO
  refine ⟨(hG.keepsO.mono (fun b hb => mem_ownT.2 (.inr (.inr (.inr (.inr (by simpa using hb))))))).trans (hk.mono (fun b hb => by simp at hb; subst hb; exact mem_ownT.2 (.inl rfl))), hi.trans hi2, fun b hb => ?_⟩
  rcases mem_ownT.1 hb with e | e | e | e | e
  · exact .inl (mem_ownT.2 (.inl e))
  · exact .inl (mem_ownT.2 (.inr (.inl e)))
  · exact .inl (mem_ownT.2 (.inr (.inr (.inl e))))
  · exact .inl (mem_ownT.2 (.inr (.inr (.inr (.inl e)))))
  · rcases hG.own with e2 | ⟨k, e2, hle⟩
    · exact .inl (mem_ownT.2 (.inr (.inr (.inr (.inr (e2 ▸ e))))))
    · rw [e2] at e; cases e; exact .inr hle
end TrM
/-- What agreeing leaves. -/
def AgrPost (w : World) (B bt bm : Nat) (vo vh vg : Value) (t : Tr) (m : Int) (e : Ending) (w' : World) : Prop :=
  ∃ vg', e = .returned (.int .i64 (t.agreeT m).2) ∧ TrM w' B bt bm vo vh vg' (t.agreeT m).1 ∧ Mv (ownT bt bm vo vh vg) (ownT bt bm vo vh vg') w w'
theorem AgrPost.of {w w' : World} {B bt bm : Nat} {vo vh vg vg' : Value} {t t' : Tr} {m r : Int} (he : t.agreeT m = (t', r)) (hT : TrM w' B bt bm vo vh vg' t') (hM : Mv (ownT bt bm vo vh vg) (ownT bt bm vo vh vg') w w') : AgrPost w B bt bm vo vh vg t m (.returned (.int .i64 r)) w' := by
  unfold AgrPost
  rw [he]
  exact ⟨vg', rfl, hT, hM⟩
set_option maxRecDepth 100000 in
set_option maxHeartbeats 4000000 in
theorem agree_c (w : World) (B bt bm : Nat) (vo vh vg : Value) (t : Tr) (m : Int) (h : TrM w B bt bm vo vh vg t) (hl : t.qs.length ≤ 1000) (hl2 : t.ag.length ≤ 1000) (hag : t.state = 1 → t.ag.length < t.clm.length) :
    Calls Tryz.prog 17 #[.pointer (some ⟨bt, 0, none⟩), .int .i64 m] w (AgrPost w B bt bm vo vh vg t m) := by
  have hc := pending_c w B bt bm vo vh vg t m h hl (fun hs P Y hY hP => by rw [Tr.clm_eq h.inv hY hP]; exact hag hs)
  have hinv := h.inv
  replace hc := Lib.hid hc
  replace h := Lib.hid h
  clear hag
  go_enter Tryz.func17, Tryz.ntmps17
  go_wp2_with fail
  refine hc.out.mono ?_
  rintro e w1 ⟨r, rfl, hk, hcase⟩
  have hT := h.out.keeps hk
  by_cases hr : r = 0
  · have hc2 : t.state = 1 ∧ ∃ p, t.clm[t.ag.length]? = some p ∧ p.m = m := by
      rcases hcase with ⟨_, h2⟩ | ⟨h1, P, Y, p, h2, h3, h4, h5⟩
      · omega
      · refine ⟨h1, p, ?_, ?_⟩
        · rw [← Tr.clm_eq hinv h2 h3]; exact h4
        · by_cases e : p.m = m
          · exact e
          · rw [if_neg e] at h5; omega
    obtain ⟨h1, p, h4, h5⟩ := hc2
    have hres : t.agreeT m = ({ t with ag := t.ag ++ [m], state := if t.ag.length + 1 = t.clm.length then 2 else t.state }, 0) := by
      unfold Tr.agreeT
      rw [if_neg (by simp [h1]), h4]
      simp only
      rw [if_neg (by simp [h5])]
    subst hr
    obtain ⟨ga, gc, rfl⟩ := hT.ag.form
    obtain ⟨LG, hLG⟩ : ∃ n, t.ag.length = n := ⟨_, rfl⟩
    rw [hLG] at hT ⊢
    have d10 := hT.cells.2.2.2.2.2.2.2.2.2.2.1
    have hfr := hT.free
    have hlt := hT.lt
    have hbB := hT.bB
    have hkA := (Keeps.refl [] w1).alloc (.cells #[.int .i64 m] 3)
    have hTA := hT.keeps hkA
    have hm1 := Sh.R.made shZ w1 [m] #[.int .i64 m] 3 rfl (by simp [maxLen]) 1 rfl
    have hsA : B ≤ (w1.alloc (.cells #[.int .i64 m] 3)).heap.size := by simp; omega
    have hOA := hTA.ag
    replace hTA := Lib.hid hTA
    replace hm1 := Lib.hid hm1
    replace hOA := Lib.hid hOA
    have hkw := Lib.hid (hk.trans hkA)
    replace hres := Lib.hid hres
    replace h1 := Lib.hid h1
    replace hLG := Lib.hid hLG
    clear hcase hT h4 h5 hk hkA hc
    go_upto_region 5 with (at_builtin; go_loud (refine Sh.wpl_app shZ B infoZ rfl Tryz.underlying98 (.slice ga LG gc) (.slice (some ⟨w1.heap.size, 0, none⟩) 1 1) t.ag [m] rfl _ _ rfl rfl rfl hOA.out hm1.out (by simp only [List.length_singleton]; omega) hsA ?_; intro v2 w2 hO2 hG2; have hS := hTA.out.setAg hG2 hO2; have hMv := hTA.out.mvAg hG2 hO2; have hb2 := (hG2.keepsO.block bt hTA.out.lt.1 (fun hm => by obtain ⟨cs', hc⟩ := hOA.out.tag bt (by simpa using hm); exact tag_ne hc hTA.out.blk (by decide) rfl)).trans hTA.out.blk; have d2 := (show w2.cell? ⟨bt, 10, none⟩ = some (.slice ga LG gc) by simp [World.cell?, hb2]); have hf2 := (show ∀ o, w2.frozen? ⟨bt, o, none⟩ = false by intro o; simp [World.frozen?, hb2]); have hl2' := lt_of_blk hb2; obtain ⟨g2, c2, rfl⟩ := hO2.form; obtain ⟨L2, hL2⟩ : ∃ n, (t.ag ++ [m]).length = n := ⟨_, rfl⟩; rw [hL2] at hO2 hS hMv ⊢; replace hS := Lib.hid hS; replace hMv := Lib.hid hMv; clear hO2 hG2 hb2 d10))
    have hT3 := hS.out.1
    have hMv3 := (Mv.nil hkw.out).trans hMv.out
    generalize w2.setCell ⟨bt, 10, none⟩ (.slice g2 L2 c2) = w3 at *
    have hcl := claims_c w3.drew B bt bm vo vh _ _ (hT3.keeps ((Keeps.refl [] w3).drew)) hl
    have d10 := hT3.cells.2.2.2.2.2.2.2.2.2.2.1
    have hfr := hT3.free
    have hlt := hT3.lt
    replace hT3 := Lib.hid hT3
    replace hMv3 := Lib.hid hMv3
    replace hcl := Lib.hid hcl
    clear hS hMv hkw hTA hm1 hOA d2 hf2 hl2'
    go_wp2
    refine Free.wp_region_chain (fun i => i == 6) (fun i => true) (fun _ _ => False) (by kernel_rfl) (by kernel_rfl) (by kernel_rfl) ?_
    (repeat (first | (apply Free.cw_pure rfl rfl; (intro w'; go_simp <;> exact rfl); go_frame) | (apply Free.cw_steady rfl rfl rfl; (intro w' hS; have q0 := Free.sx_cell hS d10 (fun _ _ hT => hT); go_simp <;> exact rfl); go_frame) | (refine Free.cw_skip rfl ?_; go_frame)))
    refine Free.cw_loud rfl rfl (fun K hK => ?_)
    go_wp2_with fail
    refine hcl.out.mono ?_
    rintro e w4 ⟨v4, P, V, Bc, Y, rfl, _, hCL, hY, hP, k4⟩
    refine hK _ _ rfl (Free.KeepsP.of k4 (by simp)) ?_
    clear hK K hcl
    obtain ⟨a4, c4, rfl⟩ := hCL.c.form
    have hPe : P = t.clm := by
      have := Tr.clm_eq (t := { t with ag := t.ag ++ [m] }) hT3.out.inv hY hP
      rw [this]; rfl
    obtain ⟨LP, hLP⟩ : ∃ n, (rowsC P V).length = n := ⟨_, rfl⟩
    have hLP2 : LP = t.clm.length := by rw [← hLP, ← hPe]; simp [rowsC]
    rw [hLP]
    have hT4 := hT3.out.keeps (((Keeps.refl [] w3).drew).trans k4)
    have hMv4 := hMv3.out.trans (Mv.nil (((Keeps.refl [] w3).drew).trans k4))
    have hfr4 := hT4.free
    have d9 := hT4.cells.2.2.2.2.2.2.2.2.2.1
    have hL2g : L2 = t.ag.length + 1 := by rw [← hL2]; simp
    replace hLP := Lib.hid hLP
    replace hL2 := Lib.hid hL2
    replace hT4 := Lib.hid hT4
    replace hMv4 := Lib.hid hMv4
    clear hCL hPe k4 hT3 hMv3
    by_cases heq : t.ag.length + 1 = t.clm.length
    · have hb : L2 = LP := by omega
      rw [if_pos heq] at hres
      have hb2 : ((L2 : Int) == (LP : Int)) = true := by simp [hb]
      replace hb := Lib.hid hb
      replace heq := Lib.hid heq
      replace hLP2 := Lib.hid hLP2
      replace hL2g := Lib.hid hL2g
      (repeat (apply Free.cw_pure rfl rfl; (intro w'; go_simp <;> exact rfl); go_frame))
      refine Free.cw_nil ?_
      clear d10
      go_wp2
      go_ret
      rw [hLG.out]
      exact AgrPost.of hres.out (hT4.out.setState 2) (hMv4.out.trans (hT4.out.mvSet 9 _))
    · have hb : ¬ L2 = LP := by omega
      rw [if_neg heq] at hres
      have hb2 : ((L2 : Int) == (LP : Int)) = false := by simp; omega
      replace hb := Lib.hid hb
      replace heq := Lib.hid heq
      replace hLP2 := Lib.hid hLP2
      replace hL2g := Lib.hid hL2g
      (repeat (apply Free.cw_pure rfl rfl; (intro w'; go_simp <;> exact rfl); go_frame))
      refine Free.cw_nil ?_
      clear d10
      go_wp2
      go_ret
      rw [hLG.out]
      exact AgrPost.of hres.out hT4.out hMv4.out
  · have br : (r != 0) = true := by simpa using hr
    have hres : t.agreeT m = (t, r) := by
      rcases hcase with ⟨h1, h2⟩ | ⟨h1, P, Y, p, h2, h3, h4, h5⟩
      · unfold Tr.agreeT; rw [if_pos h1, h2]
      · rw [Tr.clm_eq hinv h2 h3] at h4
        by_cases e : p.m = m
        · rw [if_pos e] at h5; exact absurd h5 hr
        · rw [if_neg e] at h5
          unfold Tr.agreeT
          rw [if_neg (by simp [h1]), h4]
          simp only
          rw [if_pos e, h5]
    replace hT := Lib.hid hT
    replace hk := Lib.hid hk
    replace hres := Lib.hid hres
    clear hcase
    go_wp2
    go_ret
    exact AgrPost.of hres.out hT.out (Mv.nil hk.out)
end Go.Proofs.YtiplgpefapeapaaGreat

namespace Go.Proofs.YtiplgpefapeapaaGreat
open Go.RowKit

/-- The seven fields of an answer, read one after the other. -/
def f1 (s : RS) : RS := (rI s).2
def f2 (s : RS) : RS := (rI (f1 s)).2
def f3 (s : RS) : RS := (rU (f2 s)).2
def f4 (s : RS) : RS := (rI (f3 s)).2
def f5 (s : RS) : RS := (rB (f4 s)).2
def f6 (s : RS) : RS := (rB (f5 s)).2
def f7 (s : RS) : RS := (rI (f6 s)).2
/-- One answer more. -/
abbrev DS := RS × Tr × Bool
/-- The machine of the pending claim. -/
def Tr.pm (t : Tr) : Int := match t.clm[t.ag.length]? with | some p => p.m | none => 0
def gS (t : Tr) : Option Tr := if t.state = 1 then some (t.agreeT t.pm).1 else none
/-- The head of the encoding. -/
def h1 (l : List UInt8) : RS := (rI (l, 0)).2
def h2 (l : List UInt8) : RS := (rI (h1 l)).2
def h3 (l : List UInt8) : RS := (rI (h2 l)).2
def h4 (l : List UInt8) : RS := (rU (h3 l)).2
def h5 (l : List UInt8) : RS := (rI (h4 l)).2
def h6 (l : List UInt8) : RS := (rU (h5 l)).2
def hT (l : List UInt8) : Tr := Tr.new (rI (l, 0)).1 (rI (h1 l)).1 ((rI (h2 l)).1, (rU (h3 l)).1, (rI (h4 l)).1)
def hTold (l : List UInt8) : Nat := min (rU (h5 l)).1 1025
def hX (l : List UInt8) : DS := ((rCS l.length (h6 l)).2, hT l, decide (hTold l = 0) || decide (hTold l = 1))
def hN (l : List UInt8) : Nat := (rCS l.length (h6 l)).1
/-- What holds of the trace while it is played again. -/
structure Tr.Dc (t : Tr) : Prop where
  s1 : t.state = 1 → t.ag.length < t.clm.length
  s0 : t.state = 0 → t.ag = []
  ne : t.qs ≠ []
  rf : t.rf = false
theorem Tr.Dc.new (im is : Int) (st : T3) : (Tr.new im is st).Dc := ⟨by simp [Tr.new], by simp [Tr.new], by simp [Tr.new], rfl⟩
theorem Tr.Dc.answer {t : Tr} {a : Ans} (h : t.Dc) (hi' : (t.answer a).1.Inv) : (t.answer a).1.Dc := by
  revert hi'
  unfold Tr.answer
  split
  · exact fun _ => h
  rename_i h0
  have h0 : t.state = 0 := by simpa using h0
  split
  · exact fun _ => h
  split
  · exact fun _ => ⟨by simp, by simp, h.ne, h.rf⟩
  split
  · exact fun _ => ⟨by simp, by simp, h.ne, h.rf⟩
  split
  · exact fun _ => ⟨by simp, by simp, h.ne, h.rf⟩
  intro hi'
  have hge : t.qs.length ≤ ((t.take a).put a).qs.length := by
    have := fold_ge a.m a.ins (setQ a.q a t.qs)
    rw [setQ_length] at this
    exact this
  have hpos : 0 < t.qs.length := List.length_pos_iff.2 h.ne
  have hne : ((t.take a).put a).qs ≠ [] := List.length_pos_iff.1 (by omega)
  unfold Tr.close at hi' ⊢
  by_cases hall : allQ ((t.take a).put a).qs = true
  · simp only [hall, if_true] at hi' ⊢
    refine ⟨fun _ => ?_, by simp, hne, h.rf⟩
    have hag : ((t.take a).put a).ag = [] := h.s0 h0
    have hcp := Tr.clm_pos hi' (fun e => by
      have := (rec_len ((t.take a).put a).qs).2.2 hall
      have e' : recOf ((t.take a).put a).qs = [] := e
      rw [e'] at this
      simp at this
      omega)
    show ((t.take a).put a).ag.length < _
    rw [hag]
    exact hcp
  · simp only [hall] at hi' ⊢
    exact ⟨fun e => by simp [Tr.take, Tr.put, h0] at e, fun _ => h.s0 h0, hne, h.rf⟩
theorem Tr.Dc.pm {t : Tr} (h : t.Dc) (h1 : t.state = 1) : ∃ p, t.clm[t.ag.length]? = some p ∧ t.pm = p.m := by
  have := h.s1 h1
  refine ⟨_, List.getElem?_eq_getElem this, ?_⟩
  unfold Tr.pm
  rw [List.getElem?_eq_getElem this]
theorem Tr.Dc.agree_eq {t : Tr} (h : t.Dc) (h1 : t.state = 1) : t.agreeT t.pm = ({ t with ag := t.ag ++ [t.pm], state := if t.ag.length + 1 = t.clm.length then 2 else t.state }, 0) := by
  obtain ⟨p, hp, hm⟩ := h.pm h1
  unfold Tr.agreeT
  rw [if_neg (by simp [h1]), hp]
  simp only
  rw [if_neg (by simp [hm])]
theorem Tr.Dc.agree {t : Tr} (h : t.Dc) (h1 : t.state = 1) : (t.agreeT t.pm).1.Dc := by
  rw [h.agree_eq h1]
  have hlt := h.s1 h1
  refine ⟨fun e => ?_, fun e => ?_, h.ne, h.rf⟩
  · simp only at e
    split at e
    · omega
    · rename_i hne
      have e2 := @Tr.clm_qs t { t with ag := t.ag ++ [t.pm], state := if t.ag.length + 1 = t.clm.length then 2 else t.state } rfl
      rw [e2]
      simp only [List.length_append, List.length_cons, List.length_nil]
      omega
  · simp only at e
    split at e <;> omega
theorem msA_len (L : List Int) (a : Ans) : (msA L a).length ≤ L.length + 1 := by unfold msA; split <;> simp
theorem msF_len : ∀ (Y : List Ans) (L : List Int), (Y.foldl msA L).length ≤ L.length + Y.length
  | [], L => by simp
  | a :: Y, L => by
    have ih := msF_len Y (msA L a)
    have := msA_len L a
    rw [List.foldl_cons, List.length_cons]
    omega
theorem ms_len (Y : List Ans) : (msOf Y).length ≤ Y.length := by have := msF_len Y []; simpa [msOf] using this
theorem Tr.clm_len {t : Tr} (h : t.Inv) : t.clm.length ≤ t.qs.length := by
  have hs := srtOf_sorted h
  have hp : ClaimsP t (srtOf t.qs) t.clm := refOf_claims hs.2
  obtain ⟨e1, _⟩ := ClaimsP.at' hs.2 hp
  rw [e1]
  have e2 := ms_len (srtOf t.qs)
  have e3 := hs.1.length_eq
  have e4 := (rec_len t.qs).1
  rw [List.length_map] at e3
  have e5 : t.rec' = recOf t.qs := rfl
  rw [e5] at e3
  omega
end Go.Proofs.YtiplgpefapeapaaGreat

namespace Go.Proofs.YtiplgpefapeapaaGreat
open Go.RowKit Go.Sort Go.Shelf Go.Proofs

theorem keeps_grow (w : World) (q : Nat) (os : Array Obj) : Keeps [] w (Sort.grow (w.drewN q) os) := by
  refine ⟨rfl, rfl, rfl, ?_, fun k hk _ => ?_⟩
  · simp [Sort.grow]
  · simp only [Sort.grow]
    rw [Array.getElem?_append_left (by simpa using hk)]
    rfl
set_option maxRecDepth 100000 in
set_option maxHeartbeats 2000000 in
theorem cmpN_c (x y : T3) (w : World) : Calls Tryz.prog 105 #[tV x, tV y] w fun e w' => e = .returned (.int .i64 (cfT x y)) ∧ ∃ q os, w' = grow (w.drewN q) os := by
  obtain ⟨x0, x1, x2⟩ := x
  obtain ⟨y0, y1, y2⟩ := y
  obtain ⟨r, hr⟩ : ∃ r, cfT (x0, x1, x2) (y0, y1, y2) = r := ⟨_, rfl⟩
  rw [hr]
  replace hr := Lib.hid hr
  have hk2 : Keeps [] (w.alloc (.cells #[.int .i64 x0, .int .u64 x1, .int .i64 x2] tN)) ((w.alloc (.cells #[.int .i64 x0, .int .u64 x1, .int .i64 x2] tN)).alloc (.cells #[.int .i64 y0, .int .u64 y1, .int .i64 y2] tN)) := (Keeps.refl _ _).alloc _
  have b1 := (hk2.block w.heap.size (by simp) (by simp)).trans (heap_alloc_new w (.cells #[.int .i64 x0, .int .u64 x1, .int .i64 x2] tN))
  have b2 := heap_alloc_new (w.alloc (.cells #[.int .i64 x0, .int .u64 x1, .int .i64 x2] tN)) (.cells #[.int .i64 y0, .int .u64 y1, .int .i64 y2] tN)
  rw [show (w.alloc (.cells #[.int .i64 x0, .int .u64 x1, .int .i64 x2] tN)).heap.size = w.heap.size + 1 by simp] at b2
  have hgr : (w.alloc (.cells #[.int .i64 x0, .int .u64 x1, .int .i64 x2] tN)).alloc (.cells #[.int .i64 y0, .int .u64 y1, .int .i64 y2] tN) = grow w #[.cells #[.int .i64 x0, .int .u64 x1, .int .i64 x2] tN, .cells #[.int .i64 y0, .int .u64 y1, .int .i64 y2] tN] := by
    rw [alloc_eq_grow, alloc_eq_grow, grow_grow]; rfl
  replace hgr := Lib.hid hgr
  go_enter Tryz.func105, Tryz.ntmps105
  go_wp2
  generalize (w.alloc (.cells #[.int .i64 x0, .int .u64 x1, .int .i64 x2] tN)).alloc (.cells #[.int .i64 y0, .int .u64 y1, .int .i64 y2] tN) = W at *
  obtain ⟨p0, p1, _⟩ := cells3t b1
  obtain ⟨s0, s1, _⟩ := cells3t b2
  clear b1 b2 hk2
  refine Free.wp_region_chain (fun i => i == 4 || i == 9 || i == 10 || i == 11) (fun i => true) (fun _ _ => False) (by kernel_rfl) (by kernel_rfl) (by kernel_rfl) ?_
  (repeat (first | (apply Free.cw_pure rfl rfl; (intro w'; go_simp <;> exact rfl); go_frame) | (apply Free.cw_steady rfl rfl rfl; (intro w' hS; have q0 := Free.sx_cell hS p0 (fun _ _ hT => hT); have q1 := Free.sx_cell hS p1 (fun _ _ hT => hT); have q2 := Free.sx_cell hS s0 (fun _ _ hT => hT); have q3 := Free.sx_cell hS s1 (fun _ _ hT => hT); go_simp <;> exact rfl); go_frame) | (refine Free.cw_skip rfl ?_; go_frame)))
  refine Free.cw_loud rfl rfl (fun K hK => ?_)
  go_wp2_with fail
  refine (compareI_c x0 y0 _).mono ?_
  rintro e _ ⟨rfl, rfl⟩
  refine hK _ _ rfl (Free.KeepsP.refl _ _) ?_
  clear hK K
  (repeat (first | (apply Free.cw_pure rfl rfl; (intro w'; go_simp <;> exact rfl); go_frame) | (apply Free.cw_steady rfl rfl rfl; (intro w' hS; have q0 := Free.sx_cell hS p0 (fun _ _ hT => hT); have q1 := Free.sx_cell hS p1 (fun _ _ hT => hT); have q2 := Free.sx_cell hS s0 (fun _ _ hT => hT); have q3 := Free.sx_cell hS s1 (fun _ _ hT => hT); go_simp <;> exact rfl); go_frame) | (refine Free.cw_skip rfl ?_; go_frame)))
  refine Free.cw_loud rfl rfl (fun K hK => ?_)
  go_wp2_with fail
  refine (compareU_c x1 y1 _).mono ?_
  rintro e _ ⟨rfl, rfl⟩
  refine hK _ _ rfl (Free.KeepsP.refl _ _) ?_
  clear hK K
  (repeat (first | (apply Free.cw_pure rfl rfl; (intro w'; go_simp <;> exact rfl); go_frame) | (apply Free.cw_steady rfl rfl rfl; (intro w' hS; have q0 := Free.sx_cell hS p0 (fun _ _ hT => hT); have q1 := Free.sx_cell hS p1 (fun _ _ hT => hT); have q2 := Free.sx_cell hS s0 (fun _ _ hT => hT); have q3 := Free.sx_cell hS s1 (fun _ _ hT => hT); go_simp <;> exact rfl); go_frame) | (refine Free.cw_skip rfl ?_; go_frame)))
  refine Free.cw_loud rfl rfl (fun K hK => ?_)
  go_wp2
  refine hK _ _ rfl (Free.KeepsP.alloc _ _ _) ?_
  clear hK K
  (repeat (apply Free.cw_pure rfl rfl; (intro w'; go_simp <;> exact rfl); go_frame))
  refine Free.cw_loud rfl rfl (fun K hK => ?_)
  go_wp2_with fail
  refine (or_c _ _ _ ((shZ_of2 W (cI x0 y0) (cI x1 y1) 3).keeps ((Keeps.refl [] _).drew))).mono ?_
  rintro e _ ⟨rfl, rfl⟩
  refine hK _ _ rfl (Free.KeepsP.refl _ _) ?_
  clear hK K
  (repeat (apply Free.cw_pure rfl rfl; (intro w'; go_simp <;> exact rfl); go_frame))
  refine Free.cw_nil ?_
  go_wp2
  go_ret
  exact ⟨by rw [← hr.out]; rfl, 1, _, by rw [hgr.out, alloc_eq_grow, grow_grow]; rfl⟩
set_option maxRecDepth 100000 in
set_option maxHeartbeats 2000000 in
theorem cmpB_c (x y : AnV) (w : World) : Calls Tryz.prog 100 #[aV x, aV y] w fun e w' => e = .returned (.int .i64 (cfA x y)) ∧ ∃ q os, w' = grow (w.drewN q) os := by
  obtain ⟨r, hr⟩ : ∃ r, cfA x y = r := ⟨_, rfl⟩
  rw [hr]
  obtain ⟨x0, x1, x2, x3, x4, x5, x6, x7, x8, x9⟩ := x
  obtain ⟨y0, y1, y2, y3, y4, y5, y6, y7, y8, y9⟩ := y
  replace hr := Lib.hid hr
  have hk2 : Keeps [] (w.alloc (.cells #[.int .i64 x0, .int .i64 x1, .int .u64 x2, .int .i64 x3, .bool x4, .bool x5, .int .i64 x6, .slice x7 x8 x9] tA)) ((w.alloc (.cells #[.int .i64 x0, .int .i64 x1, .int .u64 x2, .int .i64 x3, .bool x4, .bool x5, .int .i64 x6, .slice x7 x8 x9] tA)).alloc (.cells #[.int .i64 y0, .int .i64 y1, .int .u64 y2, .int .i64 y3, .bool y4, .bool y5, .int .i64 y6, .slice y7 y8 y9] tA)) := (Keeps.refl _ _).alloc _
  have b1 := (hk2.block w.heap.size (by simp) (by simp)).trans (heap_alloc_new w (.cells #[.int .i64 x0, .int .i64 x1, .int .u64 x2, .int .i64 x3, .bool x4, .bool x5, .int .i64 x6, .slice x7 x8 x9] tA))
  have b2 := heap_alloc_new (w.alloc (.cells #[.int .i64 x0, .int .i64 x1, .int .u64 x2, .int .i64 x3, .bool x4, .bool x5, .int .i64 x6, .slice x7 x8 x9] tA)) (.cells #[.int .i64 y0, .int .i64 y1, .int .u64 y2, .int .i64 y3, .bool y4, .bool y5, .int .i64 y6, .slice y7 y8 y9] tA)
  rw [show (w.alloc (.cells #[.int .i64 x0, .int .i64 x1, .int .u64 x2, .int .i64 x3, .bool x4, .bool x5, .int .i64 x6, .slice x7 x8 x9] tA)).heap.size = w.heap.size + 1 by simp] at b2
  have hgr : (w.alloc (.cells #[.int .i64 x0, .int .i64 x1, .int .u64 x2, .int .i64 x3, .bool x4, .bool x5, .int .i64 x6, .slice x7 x8 x9] tA)).alloc (.cells #[.int .i64 y0, .int .i64 y1, .int .u64 y2, .int .i64 y3, .bool y4, .bool y5, .int .i64 y6, .slice y7 y8 y9] tA) = grow w #[.cells #[.int .i64 x0, .int .i64 x1, .int .u64 x2, .int .i64 x3, .bool x4, .bool x5, .int .i64 x6, .slice x7 x8 x9] tA, .cells #[.int .i64 y0, .int .i64 y1, .int .u64 y2, .int .i64 y3, .bool y4, .bool y5, .int .i64 y6, .slice y7 y8 y9] tA] := by
    rw [alloc_eq_grow, alloc_eq_grow, grow_grow]; rfl
  replace hgr := Lib.hid hgr
  simp only [aV, AnV.v]
  go_enter Tryz.func100, Tryz.ntmps100
  go_wp2
  generalize (w.alloc (.cells #[.int .i64 x0, .int .i64 x1, .int .u64 x2, .int .i64 x3, .bool x4, .bool x5, .int .i64 x6, .slice x7 x8 x9] tA)).alloc (.cells #[.int .i64 y0, .int .i64 y1, .int .u64 y2, .int .i64 y3, .bool y4, .bool y5, .int .i64 y6, .slice y7 y8 y9] tA) = W at *
  obtain ⟨p0, p1, p2⟩ := cells8t b1
  obtain ⟨s0, s1, s2⟩ := cells8t b2
  clear b1 b2 hk2
  refine Free.wp_region_chain (fun i => i == 4 || i == 9 || i == 14 || i == 15 || i == 16) (fun i => true) (fun _ _ => False) (by kernel_rfl) (by kernel_rfl) (by kernel_rfl) ?_
  (repeat (first | (apply Free.cw_pure rfl rfl; (intro w'; go_simp <;> exact rfl); go_frame) | (apply Free.cw_steady rfl rfl rfl; (intro w' hS; have q0 := Free.sx_cell hS p0 (fun _ _ hT => hT); have q1 := Free.sx_cell hS p1 (fun _ _ hT => hT); have q2 := Free.sx_cell hS p2 (fun _ _ hT => hT); have q3 := Free.sx_cell hS s0 (fun _ _ hT => hT); have q4 := Free.sx_cell hS s1 (fun _ _ hT => hT); have q5 := Free.sx_cell hS s2 (fun _ _ hT => hT); go_simp <;> exact rfl); go_frame) | (refine Free.cw_skip rfl ?_; go_frame)))
  refine Free.cw_loud rfl rfl (fun K hK => ?_)
  go_wp2_with fail
  refine (compareI_c x0 y0 _).mono ?_
  rintro e _ ⟨rfl, rfl⟩
  refine hK _ _ rfl (Free.KeepsP.refl _ _) ?_
  clear hK K
  (repeat (first | (apply Free.cw_pure rfl rfl; (intro w'; go_simp <;> exact rfl); go_frame) | (apply Free.cw_steady rfl rfl rfl; (intro w' hS; have q0 := Free.sx_cell hS p0 (fun _ _ hT => hT); have q1 := Free.sx_cell hS p1 (fun _ _ hT => hT); have q2 := Free.sx_cell hS p2 (fun _ _ hT => hT); have q3 := Free.sx_cell hS s0 (fun _ _ hT => hT); have q4 := Free.sx_cell hS s1 (fun _ _ hT => hT); have q5 := Free.sx_cell hS s2 (fun _ _ hT => hT); go_simp <;> exact rfl); go_frame) | (refine Free.cw_skip rfl ?_; go_frame)))
  refine Free.cw_loud rfl rfl (fun K hK => ?_)
  go_wp2_with fail
  refine (compareI_c x1 y1 _).mono ?_
  rintro e _ ⟨rfl, rfl⟩
  refine hK _ _ rfl (Free.KeepsP.refl _ _) ?_
  clear hK K
  (repeat (first | (apply Free.cw_pure rfl rfl; (intro w'; go_simp <;> exact rfl); go_frame) | (apply Free.cw_steady rfl rfl rfl; (intro w' hS; have q0 := Free.sx_cell hS p0 (fun _ _ hT => hT); have q1 := Free.sx_cell hS p1 (fun _ _ hT => hT); have q2 := Free.sx_cell hS p2 (fun _ _ hT => hT); have q3 := Free.sx_cell hS s0 (fun _ _ hT => hT); have q4 := Free.sx_cell hS s1 (fun _ _ hT => hT); have q5 := Free.sx_cell hS s2 (fun _ _ hT => hT); go_simp <;> exact rfl); go_frame) | (refine Free.cw_skip rfl ?_; go_frame)))
  refine Free.cw_loud rfl rfl (fun K hK => ?_)
  go_wp2_with fail
  refine (compareU_c x2 y2 _).mono ?_
  rintro e _ ⟨rfl, rfl⟩
  refine hK _ _ rfl (Free.KeepsP.refl _ _) ?_
  clear hK K
  (repeat (apply Free.cw_pure rfl rfl; (intro w'; go_simp <;> exact rfl); go_frame))
  refine Free.cw_loud rfl rfl (fun K hK => ?_)
  go_wp2
  refine hK _ _ rfl (Free.KeepsP.alloc _ _ _) ?_
  clear hK K
  (repeat (apply Free.cw_pure rfl rfl; (intro w'; go_simp <;> exact rfl); go_frame))
  refine Free.cw_loud rfl rfl (fun K hK => ?_)
  go_wp2_with fail
  refine (or_c _ _ _ ((shZ_of3 W (cI x0 y0) (cI x1 y1) (cI x2 y2) 3).keeps ((Keeps.refl [] _).drew))).mono ?_
  rintro e _ ⟨rfl, rfl⟩
  refine hK _ _ rfl (Free.KeepsP.refl _ _) ?_
  clear hK K
  (repeat (apply Free.cw_pure rfl rfl; (intro w'; go_simp <;> exact rfl); go_frame))
  refine Free.cw_nil ?_
  go_wp2
  go_ret
  exact ⟨by rw [← hr.out]; rfl, 1, _, by rw [hgr.out, alloc_eq_grow, grow_grow]; rfl⟩
/-- slices.SortFunc over needs. -/
theorem sortN_c (w : World) (B : Nat) (v : Value) (L : List T3) (h : shT.O w B tN v L) (hl : L.length ≤ 1000000000000) :
    Calls Tryz.prog 89 #[v, .func (.func 105) #[] #[]] w fun e w' => e = .returned (.tuple #[]) ∧ ∃ L', L'.Perm L ∧ L'.Pairwise (fun x y => ¬ tlt y x) ∧ shT.O w' B tN v L' ∧ Keeps v.ownBlock.toList w w' := by
  obtain ⟨_, h2⟩ := id h
  rcases h2 with ⟨rfl, h0⟩ | ⟨g, cap, cur, rfl, hb, hg, _⟩
  · have hL : L = [] := by
      cases L with
      | nil => rfl
      | cons x t => simp [Sh.cs, shT] at h0
    subst hL
    refine (AnyF.slices_SortFunc_none Tryz.sortNeed none 0 (.func (.func 105) #[] #[]) w).mono ?_
    rintro e w' ⟨rfl, rfl⟩
    exact ⟨rfl, [], List.Perm.refl _, List.Pairwise.nil, h, Keeps.refl _ _⟩
  · have hgl : g < w.heap.size := (Array.getElem?_eq_some_iff.1 hg).1
    have eg : ∀ args w, (callFunc 105 args).run Tryz.prog w = .ok (.enter 105 args) w := enters_of Tryz.func105 (by kernel_rfl) rfl
    have hcmp : CmpLays Tryz.prog 105 #[] shT.cf 3 cfT g 0 L.toArray.size w := fun m os dk hs x y => cmpN_c x y _
    have hcon := AnyQ.slices_SortFunc Tryz.sortNeed 3 (fun w => by kernel_rfl) (fun w => by kernel_rfl) shT.cf shT.len shT.one cfT swoT 105 #[] g 0 cap L.toArray w eg hcmp h.holds hgl (by simp; omega)
    simp only [List.size_toArray] at hcon
    refine hcon.mono ?_
    rintro e w' ⟨rfl, d', m, os, hp, hs, rfl⟩
    have hp' : PermIn 0 L.toArray.size L.toArray d' := by simpa using hp
    obtain ⟨hd, hpl⟩ := Sh.perm_of_permIn hp'
    have hd2 : d'.size = L.length := by simpa using hd
    rw [← hd2] at hs
    have hpw := Sh.pairwise_of_sortedIn hs
    obtain ⟨h3, h4⟩ := Sh.O.sorted (m := m) (os := os) h hd2
    exact ⟨rfl, d'.toList, by simpa using hpl, hpw.imp (fun h => by rw [ltT_iff] at h; exact of_decide_eq_false h), h3, h4⟩
set_option maxRecDepth 100000 in
set_option maxHeartbeats 2000000 in
theorem cmpC_c (x y : ClV) (w : World) : Calls Tryz.prog 102 #[.agg #[.int .i64 x.m, .int .i64 x.ep, slv x.v1, slv x.v2, slv x.v3], .agg #[.int .i64 y.m, .int .i64 y.ep, slv y.v1, slv y.v2, slv y.v3]] w fun e w' => e = .returned (.int .i64 (cI x.m y.m)) ∧ Keeps [] w w' := by
  obtain ⟨x0, x1, ⟨x2, x3, x4⟩, ⟨x5, x6, x7⟩, ⟨x8, x9, x10⟩⟩ := x
  obtain ⟨y0, y1, ⟨y2, y3, y4⟩, ⟨y5, y6, y7⟩, ⟨y8, y9, y10⟩⟩ := y
  simp only [slv]
  have hkA : Keeps [] w ((w.alloc (.cells #[.int .i64 x0, .int .i64 x1, .slice x2 x3 x4, .slice x5 x6 x7, .slice x8 x9 x10] tC)).alloc (.cells #[.int .i64 y0, .int .i64 y1, .slice y2 y3 y4, .slice y5 y6 y7, .slice y8 y9 y10] tC)) := ((Keeps.refl [] w).alloc _).alloc _
  replace hkA := Lib.hid hkA
  go_enter Tryz.func102, Tryz.ntmps102
  go_wp2_with fail
  refine (compareI_c x0 y0 _).mono ?_
  rintro e _ ⟨rfl, rfl⟩
  go_wp2
  go_ret
  exact ⟨rfl, hkA.out⟩
set_option maxRecDepth 100000 in
set_option maxHeartbeats 1000000 in
theorem mach_c (n : Int) (w : World) : Calls Tryz.prog 97 #[.int .i64 n] w fun e w' => e = .returned (.bool (mach n)) ∧ w = w' := by
  obtain ⟨r, hr⟩ : ∃ r, mach n = r := ⟨_, rfl⟩
  rw [hr]
  unfold mach at hr
  by_cases h1 : 1 ≤ n
  · have h1d : decide (1 ≤ n) = true := by simpa using h1
    have hd : decide (n ≤ 8) = r := by rw [← hr, h1d]; rfl
    replace hr := Lib.hid hr
    go_enter Tryz.func97, Tryz.ntmps97
    go_wp2
    go_ret
    exact ⟨by rw [← hd]; rfl, rfl⟩
  · have h1d : decide (1 ≤ n) = false := by simpa using h1
    have hd : false = r := by rw [← hr, h1d]; rfl
    replace hr := Lib.hid hr
    replace hd := Lib.hid hd
    go_enter Tryz.func97, Tryz.ntmps97
    go_wp2
    go_ret
    exact ⟨by rw [← hd.out]; rfl, rfl⟩
set_option maxRecDepth 100000 in
set_option maxHeartbeats 1000000 in
theorem machR_c (n : Int) (w : World) : Calls Tryz.prog 66 #[.int .i64 n] w fun e w' => e = .returned (.bool (mach n)) ∧ w = w' := by
  obtain ⟨r, hr⟩ : ∃ r, mach n = r := ⟨_, rfl⟩
  rw [hr]
  unfold mach at hr
  by_cases h1 : 1 ≤ n
  · have h1d : decide (1 ≤ n) = true := by simpa using h1
    have hd : decide (n ≤ 8) = r := by rw [← hr, h1d]; rfl
    replace hr := Lib.hid hr
    go_enter Tryz.func66, Tryz.ntmps66
    go_wp2
    go_ret
    exact ⟨by rw [← hd]; rfl, rfl⟩
  · have h1d : decide (1 ≤ n) = false := by simpa using h1
    have hd : false = r := by rw [← hr, h1d]; rfl
    replace hr := Lib.hid hr
    replace hd := Lib.hid hd
    go_enter Tryz.func66, Tryz.ntmps66
    go_wp2
    go_ret
    exact ⟨by rw [← hd.out]; rfl, rfl⟩
end Go.Proofs.YtiplgpefapeapaaGreat
