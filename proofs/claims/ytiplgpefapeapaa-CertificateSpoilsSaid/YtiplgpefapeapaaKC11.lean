/- Texts that the laws lean on, in the order in which they build. What Decode gives: plain. What holds of the trace that Decode plays again (plain). The memory of Decode: the reader, and the trace beside it. The specification's Of. The specification's out. What the specification's Check computes is chk. The specification's Consistent. The specification's Machines. -/
import Derived.Test.YtiplgpefapeapaaKC10
set_option linter.unusedVariables false
set_option linter.unusedSimpArgs false
namespace Go.Proofs.Ytiplgpefapeapaa
open Go.RowKit

/-- An inset, an answer, as the reader reads them. -/
def rX (s : RS) : T3 × RS := (((rI s).1, (rU (rI s).2).1, (rI (rU (rI s).2).2).1), (rI (rU (rI s).2).2).2)
def rXs : Nat → RS → List T3 → List T3 × RS
  | 0, s, L => (L, s)
  | n + 1, s, L => rXs n (rX s).2 (L ++ [(rX s).1])
theorem rXs_succ (n : Nat) (s : RS) (L : List T3) : rXs (n + 1) s L = rXs n (rX s).2 (L ++ [(rX s).1]) := rfl
/-- The seven fields of an answer, read one after the other. -/
def f1 (s : RS) : RS := (rI s).2
def f2 (s : RS) : RS := (rI (f1 s)).2
def f3 (s : RS) : RS := (rU (f2 s)).2
def f4 (s : RS) : RS := (rI (f3 s)).2
def f5 (s : RS) : RS := (rB (f4 s)).2
def f6 (s : RS) : RS := (rB (f5 s)).2
def f7 (s : RS) : RS := (rI (f6 s)).2
def rA0 (s : RS) : Ans := ⟨(rI s).1, (rI (f1 s)).1, (rU (f2 s)).1, (rI (f3 s)).1, (rB (f4 s)).1, (rB (f5 s)).1, (rI (f6 s)).1, []⟩
def rAn (K : Nat) (s : RS) : Nat × RS := rCS K (f7 s)
def rAx (K : Nat) (s : RS) : List T3 × RS := rXs (rAn K s).1 (rAn K s).2 []
def rA (K : Nat) (s : RS) : Ans := { rA0 s with ins := (rAx K s).1 }
/-- One answer more. -/
abbrev DS := RS × Tr × Bool
def askd (told : Nat) (t : Tr) : Bool := decide (t.state = 0) && decide (told = t.qs.length)
def dS (K told : Nat) (x : DS) : Option DS :=
  if (x.2.1.answer (rA K x.1)).2 ≠ 0 then none else some ((rAx K x.1).2, (x.2.1.answer (rA K x.1)).1, x.2.2 || askd told (x.2.1.answer (rA K x.1)).1)
def dA (K told : Nat) (x : DS) : Nat → Option DS
  | 0 => some x
  | k + 1 => (dA K told x k).bind (dS K told)
theorem dA_none {K told : Nat} {x : DS} {k : Nat} (h : dA K told x k = none) : ∀ n, k ≤ n → dA K told x n = none := fun n hn => by
  induction n with
  | zero => rw [show k = 0 by omega] at h; exact h
  | succ n ih =>
    by_cases e : k = n + 1
    · rw [← e]; exact h
    · show (dA K told x n).bind _ = none
      rw [ih (by omega)]; rfl
/-- The machine of the pending claim. -/
def Tr.pm (t : Tr) : Int := match t.clm[t.ag.length]? with | some p => p.m | none => 0
def gS (t : Tr) : Option Tr := if t.state = 1 then some (t.agreeT t.pm).1 else none
def gA (t : Tr) : Nat → Option Tr
  | 0 => some t
  | k + 1 => (gA t k).bind gS
theorem gA_none {t : Tr} {k : Nat} (h : gA t k = none) : ∀ n, k ≤ n → gA t n = none := fun n hn => by
  induction n with
  | zero => rw [show k = 0 by omega] at h; exact h
  | succ n ih =>
    by_cases e : k = n + 1
    · rw [← e]; exact h
    · show (gA t n).bind _ = none
      rw [ih (by omega)]; rfl
def rfS (b : Bool) (t : Tr) : Option Tr := if b = true then (if t.state = 1 then some (t.refuseT t.pm).1 else none) else some t
/-- The head of the encoding. -/
def h1 (l : List UInt8) : RS := (rI (l, 0)).2
def h2 (l : List UInt8) : RS := (rI (h1 l)).2
def h3 (l : List UInt8) : RS := (rI (h2 l)).2
def h4 (l : List UInt8) : RS := (rU (h3 l)).2
def h5 (l : List UInt8) : RS := (rI (h4 l)).2
def h6 (l : List UInt8) : RS := (rU (h5 l)).2
def hT (l : List UInt8) : Tr := Tr.new (rI (l, 0)).1 (rI (h1 l)).1 ((rI (h2 l)).1, (rU (h3 l)).1, (rI (h4 l)).1)
def hTold (l : List UInt8) : Nat := min (rU (h5 l)).1 1025
def hX (l : List UInt8) : DS := ((rCS l.length (h6 l)).2, hT l, decide (hTold l = 0) || decide (hTold l = 1))
def hN (l : List UInt8) : Nat := (rCS l.length (h6 l)).1
/-- What follows the answers. -/
def dE (l : List UInt8) (told : Nat) (b : Bool) (s : RS) (t : Tr) : Option Tr :=
  if doneE s.1 s.2 = 0 ∧ b = true ∧ encT { t with told := told } = l then some { t with told := told } else none
def dB (l : List UInt8) (told : Nat) (b : Bool) (s : RS) (t : Tr) : Option Tr := (rfS (rB s).1 t).bind (dE l told b (rB s).2)
def dG (l : List UInt8) (told : Nat) (x : DS) : Option Tr := (gA x.2.1 (min (rU x.1).1 1024)).bind (dB l told x.2.2 (rU x.1).2)
def dec (l : List UInt8) : Option Tr := (dA l.length (hTold l) (hX l) (hN l)).bind (dG l (hTold l))
/-- What the walk counts on: the bounds. -/
structure DBnd (l : List UInt8) : Prop where
  len : l.length ≤ 1099511627776
  stp : ∀ k s t b, k < hN l → dA l.length (hTold l) (hX l) k = some (s, t, b) → t.qs.length + (rA l.length s).ins.length ≤ 1000
  fin : ∀ s t b, dA l.length (hTold l) (hX l) (hN l) = some (s, t, b) → t.qs.length ≤ 1000
  hst : hN l ≤ 1000
/-- What holds of the trace while it is played again. -/
structure Tr.Dc (t : Tr) : Prop where
  s1 : t.state = 1 → t.ag.length < t.clm.length
  s0 : t.state = 0 → t.ag = []
  ne : t.qs ≠ []
  rf : t.rf = false
theorem Tr.Dc.new (im is : Int) (st : T3) : (Tr.new im is st).Dc := ⟨by simp [Tr.new], by simp [Tr.new], by simp [Tr.new], rfl⟩
theorem rXs_len : ∀ (n : Nat) (s : RS) (L : List T3), (rXs n s L).1.length = n + L.length
  | 0, s, L => by simp [rXs]
  | n + 1, s, L => by rw [rXs_succ, rXs_len]; simp; omega
theorem rX_fit (s : RS) : InsFit (rX s).1 := ⟨rI_fit _, rU_lt _, rI_fit _⟩
theorem rXs_fit : ∀ (n : Nat) (s : RS) (L : List T3), (∀ x ∈ L, InsFit x) → ∀ x ∈ (rXs n s L).1, InsFit x
  | 0, s, L, h => h
  | n + 1, s, L, h => by
    rw [rXs_succ]
    refine rXs_fit n _ _ (fun x hx => ?_)
    rcases List.mem_append.1 hx with hx | hx
    · exact h x hx
    · rw [List.mem_singleton.1 hx]; exact rX_fit s
theorem rA_ins (K : Nat) (s : RS) : (rA K s).ins = (rAx K s).1 := rfl
theorem rA_len (K : Nat) (s : RS) : (rA K s).ins.length = (rAn K s).1 := by rw [rA_ins, rAx, rXs_len]; simp
theorem rA_ok (K : Nat) (s : RS) (hK : (rA K s).ins.length ≤ 100000) : (rA K s).Ok :=
  ⟨⟨rI_fit _, rI_fit _, rU_lt _⟩, rI_fit _, rI_fit _, fun x hx => by have := rXs_fit (rAn K s).1 (rAn K s).2 [] (by simp) x hx; exact ⟨this.a, this.n, this.c⟩, hK⟩
theorem Tr.Dc.answer {t : Tr} {a : Ans} (h : t.Dc) (hi' : (t.answer a).1.Inv) : (t.answer a).1.Dc := by
  revert hi'
  unfold Tr.answer
  split
  · exact fun _ => h
  rename_i h0
  have h0 : t.state = 0 := by simpa using h0
  split
  · exact fun _ => h
  split
  · exact fun _ => ⟨by simp, by simp, h.ne, h.rf⟩
  split
  · exact fun _ => ⟨by simp, by simp, h.ne, h.rf⟩
  split
  · exact fun _ => ⟨by simp, by simp, h.ne, h.rf⟩
  intro hi'
  have hge : t.qs.length ≤ ((t.take a).put a).qs.length := by
    have := fold_ge a.m a.ins (setQ a.q a t.qs)
    rw [setQ_length] at this
    exact this
  have hpos : 0 < t.qs.length := List.length_pos_iff.2 h.ne
  have hne : ((t.take a).put a).qs ≠ [] := List.length_pos_iff.1 (by omega)
  unfold Tr.close at hi' ⊢
  by_cases hall : allQ ((t.take a).put a).qs = true
  · simp only [hall, if_true] at hi' ⊢
    refine ⟨fun _ => ?_, by simp, hne, h.rf⟩
    have hag : ((t.take a).put a).ag = [] := h.s0 h0
    have hcp := Tr.clm_pos hi' (fun e => by
      have := (rec_len ((t.take a).put a).qs).2.2 hall
      have e' : recOf ((t.take a).put a).qs = [] := e
      rw [e'] at this
      simp at this
      omega)
    show ((t.take a).put a).ag.length < _
    rw [hag]
    exact hcp
  · simp only [hall] at hi' ⊢
    exact ⟨fun e => by simp [Tr.take, Tr.put, h0] at e, fun _ => h.s0 h0, hne, h.rf⟩
theorem Tr.Dc.pm {t : Tr} (h : t.Dc) (h1 : t.state = 1) : ∃ p, t.clm[t.ag.length]? = some p ∧ t.pm = p.m := by
  have := h.s1 h1
  refine ⟨_, List.getElem?_eq_getElem this, ?_⟩
  unfold Tr.pm
  rw [List.getElem?_eq_getElem this]
theorem Tr.Dc.agree_eq {t : Tr} (h : t.Dc) (h1 : t.state = 1) : t.agreeT t.pm = ({ t with ag := t.ag ++ [t.pm], state := if t.ag.length + 1 = t.clm.length then 2 else t.state }, 0) := by
  obtain ⟨p, hp, hm⟩ := h.pm h1
  unfold Tr.agreeT
  rw [if_neg (by simp [h1]), hp]
  simp only
  rw [if_neg (by simp [hm])]
theorem Tr.Dc.refuse_eq {t : Tr} (h : t.Dc) (h1 : t.state = 1) : t.refuseT t.pm = ({ t with state := 4, rf := true }, 0) := by
  obtain ⟨p, hp, hm⟩ := h.pm h1
  unfold Tr.refuseT
  rw [if_neg (by simp [h1]), hp]
  simp only
  rw [if_neg (by simp [hm])]
theorem Tr.Dc.agree {t : Tr} (h : t.Dc) (h1 : t.state = 1) : (t.agreeT t.pm).1.Dc := by
  rw [h.agree_eq h1]
  have hlt := h.s1 h1
  refine ⟨fun e => ?_, fun e => ?_, h.ne, h.rf⟩
  · simp only at e
    split at e
    · omega
    · rename_i hne
      have e2 := @Tr.clm_qs t { t with ag := t.ag ++ [t.pm], state := if t.ag.length + 1 = t.clm.length then 2 else t.state } rfl
      rw [e2]
      simp only [List.length_append, List.length_cons, List.length_nil]
      omega
  · simp only at e
    split at e <;> omega
theorem msA_len (L : List Int) (a : Ans) : (msA L a).length ≤ L.length + 1 := by unfold msA; split <;> simp
theorem msF_len : ∀ (Y : List Ans) (L : List Int), (Y.foldl msA L).length ≤ L.length + Y.length
  | [], L => by simp
  | a :: Y, L => by
    have ih := msF_len Y (msA L a)
    have := msA_len L a
    rw [List.foldl_cons, List.length_cons]
    omega
theorem ms_len (Y : List Ans) : (msOf Y).length ≤ Y.length := by have := msF_len Y []; simpa [msOf] using this
theorem Tr.clm_len {t : Tr} (h : t.Inv) : t.clm.length ≤ t.qs.length := by
  have hs := srtOf_sorted h
  have hp : ClaimsP t (srtOf t.qs) t.clm := refOf_claims hs.2
  obtain ⟨e1, _⟩ := ClaimsP.at' hs.2 hp
  rw [e1]
  have e2 := ms_len (srtOf t.qs)
  have e3 := hs.1.length_eq
  have e4 := (rec_len t.qs).1
  rw [List.length_map] at e3
  have e5 : t.rec' = recOf t.qs := rfl
  rw [e5] at e3
  omega
end Go.Proofs.Ytiplgpefapeapaa

namespace Go.Proofs.Ytiplgpefapeapaa
open Go.RowKit

structure Tr.Di (t : Tr) (k : Nat) : Prop where
  dc : t.Dc
  hl : t.hist.length ≤ k
  hi : ∀ a ∈ t.hist, a.ins.length ≤ 1000
  nm : t.Num
  ag : t.ag.length ≤ 1000
  st : 0 ≤ t.state ∧ t.state ≤ 4
theorem Tr.Di.new (im is : Int) (st : T3) (h1 : W64 im) (h2 : W64 is) (h3 : W64 st.1) (h4 : st.2.1 < 18446744073709551616) (h5 : W64 st.2.2) : (Tr.new im is st).Di 0 :=
  ⟨Tr.Dc.new im is st, by simp [Tr.new], by simp [Tr.new], ⟨h1, h2, h3, h4, h5⟩, by simp [Tr.new], by simp [Tr.new]⟩
theorem Tr.answer_hist (t : Tr) (a : Ans) : ((t.answer a).1.hist = t.hist ∨ (t.answer a).1.hist = t.hist ++ [a]) ∧ (t.answer a).1.im = t.im ∧ (t.answer a).1.is = t.is ∧ (t.answer a).1.st = t.st ∧ (t.answer a).1.ag = t.ag := by
  unfold Tr.answer
  split
  · exact ⟨.inl rfl, rfl, rfl, rfl, rfl⟩
  split
  · exact ⟨.inl rfl, rfl, rfl, rfl, rfl⟩
  split
  · exact ⟨.inr rfl, rfl, rfl, rfl, rfl⟩
  split
  · exact ⟨.inr rfl, rfl, rfl, rfl, rfl⟩
  split
  · exact ⟨.inr rfl, rfl, rfl, rfl, rfl⟩
  unfold Tr.close
  split <;> exact ⟨.inr rfl, rfl, rfl, rfl, rfl⟩
theorem Tr.answer_st {t : Tr} (h : 0 ≤ t.state ∧ t.state ≤ 4) (a : Ans) : 0 ≤ (t.answer a).1.state ∧ (t.answer a).1.state ≤ 4 := by
  unfold Tr.answer
  split
  · exact h
  split
  · exact h
  split
  · simp
  split
  · simp
  split
  · simp
  unfold Tr.close
  split
  · simp
  · exact h
theorem Tr.Di.answer {t : Tr} {k : Nat} {a : Ans} (h : t.Di k) (hi' : (t.answer a).1.Inv) (ha : a.ins.length ≤ 1000) : (t.answer a).1.Di (k + 1) := by
  obtain ⟨h1, h2, h3, h4, h5⟩ := Tr.answer_hist t a
  refine ⟨h.dc.answer hi', ?_, ?_, ?_, by rw [h5]; exact h.ag, Tr.answer_st h.st a⟩
  · have := h.hl
    rcases h1 with e | e
    · rw [e]; omega
    · rw [e]; simp; omega
  · intro b hb
    rcases h1 with e | e
    · rw [e] at hb; exact h.hi b hb
    · rw [e] at hb
      rcases List.mem_append.1 hb with hb | hb
      · exact h.hi b hb
      · rw [List.mem_singleton.1 hb]; exact ha
  · exact ⟨by rw [h2]; exact h.nm.im, by rw [h3]; exact h.nm.is, by rw [h4]; exact h.nm.s0, by rw [h4]; exact h.nm.s1, by rw [h4]; exact h.nm.s2⟩
theorem Tr.Di.agree {t : Tr} {k : Nat} (h : t.Di k) (h1 : t.state = 1) (hi : t.Inv) (hq : t.qs.length ≤ 1000) : (t.agreeT t.pm).1.Di k :=
  ⟨h.dc.agree h1, by rw [h.dc.agree_eq h1]; exact h.hl, by rw [h.dc.agree_eq h1]; exact h.hi, by rw [h.dc.agree_eq h1]; exact ⟨h.nm.im, h.nm.is, h.nm.s0, h.nm.s1, h.nm.s2⟩, by
    rw [h.dc.agree_eq h1]
    have e1 := h.dc.s1 h1
    have e2 := Tr.clm_len hi
    simp
    omega, by
    rw [h.dc.agree_eq h1]
    have := h.st
    simp only
    split <;> omega⟩
theorem Tr.Di.refuse {t : Tr} {k : Nat} (h : t.Di k) (h1 : t.state = 1) : (t.refuseT t.pm).2 = 0 ∧ (t.refuseT t.pm).1.hist = t.hist ∧ (t.refuseT t.pm).1.Num ∧ (t.refuseT t.pm).1.ag = t.ag ∧ (t.refuseT t.pm).1.state = 4 := by
  rw [h.dc.refuse_eq h1]
  exact ⟨rfl, rfl, ⟨h.nm.im, h.nm.is, h.nm.s0, h.nm.s1, h.nm.s2⟩, rfl, rfl⟩
/-- What its encoding wants. -/
structure Tr.Enc (t : Tr) : Prop where
  nm : t.Num
  hl : t.hist.length ≤ 1000
  hi : ∀ a ∈ t.hist, a.ins.length ≤ 1000
  ag : t.ag.length ≤ 1000
  tl : ∃ tn : Nat, t.told = tn ∧ tn ≤ 1025
  st : 0 ≤ t.state ∧ t.state ≤ 4
end Go.Proofs.Ytiplgpefapeapaa

namespace Go.Proofs.Ytiplgpefapeapaa
open Go.RowKit

theorem Sh.O.lowD {α : Type} {s : Sh α} {w : World} {B B' e : Nat} {v : Value} {L : List α} (h : s.O w B e v L) (hB : B' ≤ B) : s.O w B' e v L := by
  refine ⟨h.1, ?_⟩
  rcases h.2 with hn | ⟨g, cap, cur, rfl, h1, rest⟩
  · exact .inl hn
  · exact .inr ⟨g, cap, cur, rfl, Nat.le_trans hB h1, rest⟩
theorem SlV.moved {w w' : World} {v : Value} {l : List UInt8} {S : List Nat} (h : SlV w v l) (hk : Keeps S w w') (hS : ∀ b ∈ S, ∀ cs : Array Value, w.heap[b]? ≠ some (Obj.cells cs tB (0, 0))) : SlV w' v l := by
  obtain ⟨⟨p1, a, cap, rfl, h2, h3, h0, h4⟩, ht⟩ := h
  have hblk : ∀ g, (Value.slice a l.length cap).ownBlock = some g → w'.heap[g]? = w.heap[g]? := fun g hg => by
    obtain ⟨cs, hc⟩ := ht g hg
    exact hk.block g (lt_of_blk hc) (fun hm => hS g hm cs hc)
  refine ⟨⟨p1, a, cap, rfl, h2, h3, h0, fun hp => ?_⟩, fun g hg => by obtain ⟨cs, hc⟩ := ht g hg; exact ⟨cs, (hblk g hg).trans hc⟩⟩
  obtain ⟨g, o, rfl, hc⟩ := h4 hp
  exact ⟨g, o, rfl, fun j u hj => (World.cell?_of_block (w := w) (a := ⟨g, o + j, none⟩) (hblk g rfl)).trans (hc j u hj)⟩
namespace RM
variable {w W W' : World} {br : Nat} {s s' : RS}
end RM
namespace DM
variable {w W W' : World} {br bt bm : Nat} {vo vh vg vo' vh' vg' : Value} {s s' : RS} {t t' : Tr}
end DM
theorem Sh.owp_app {α : Type} {P : Program} {o : Oper} {a : Act} {w : World} {K : Act → World → Prop} {Q : Exit → Act → World → Prop} (s : Sh α) (B : Nat) {e t : TypeId} {z : Value} {by_ : Nat} (hinf : (P.info? e).map (fun i => (i.zero, i.size, i.bytes)) = some (some z, s.sz, by_)) (hz : z.cells.size = s.sz) (ht : P.underlying t = some (.slice e))
    (v v2 : Value) (L M : List α) (x y : Operand) (ho : o.op = .call { callee := .builtin .append, args := #[x, y], argTypes := #[t, t] }) (hs : a.eval x = v) (hx : a.eval y = v2) (h : s.O w B e v L) (hsl : s.R w v2 M)
    (hl : (L.length + M.length) * (by_ + 1) ≤ 140737488355328) (hB : B ≤ w.heap.size) (hR : ∀ v' w', s.O w' B e v' (L ++ M) → Grw w w' v v' → K (a.put o.dst v') w') : o.wp P a w K Q := by
  obtain ⟨i0, hi, hz0, hz1, hz2⟩ := info_parts hinf
  have h1 : L.length + M.length ≤ (L.length + M.length) * (by_ + 1) := Nat.le_mul_of_pos_right _ (by omega)
  have h2 : (L.length + M.length) * by_ ≤ (L.length + M.length) * (by_ + 1) := Nat.mul_le_mul_left _ (by omega)
  obtain ⟨v', w', hr, h3, h4, _⟩ := run_append_x (P := P) B t o.type e i0 z s.sz by_ ht hi hz0 hz1 hz2 hz s.pos v L.length (s.cs L) h v2 M.length (s.cs M) hsl (Sh.cs_one M) (by unfold maxLen; omega) (by omega) hB
  unfold Oper.wp execOp
  simp only [ho, resolve, invoke, builtin, Sem.run_bind, Sem.run_pure, Result.andThen_ok, List.map_toArray, List.map_cons, List.map_nil, hs, hx, hr]
  refine hR v' w' ?_ h4
  unfold Sh.O
  rw [Sh.cs_append, List.length_append]
  exact h3
namespace DM
variable {w W W' : World} {br bt bm : Nat} {vo vh vg : Value} {s : RS} {t : Tr}
end DM
end Go.Proofs.Ytiplgpefapeapaa

namespace Go.Proofs.Ytiplgpefapeapaa
open Go.RowKit

def OfPost (w : World) (Y : List Ans) (m : Int) (e : Ending) (w' : World) : Prop := ∃ v, e = .returned v ∧ shT.R w' v (ofL Y m) ∧ Keeps [] w w'
theorem ofL_succ (Y : List Ans) (m : Int) (k : Nat) (h : k < Y.length) : ofL (Y.take (k + 1)) m = ofA m (ofL (Y.take k) m) Y[k] := foldl_succ _ _ _ _ h
theorem put_succ (l : List T3) (L0 : List T3) (q : Nat) (h : q < l.length) : (l.take (q + 1)).foldl (fun l x => putN x l) L0 = putN l[q] ((l.take q).foldl (fun l x => putN x l) L0) := foldl_succ _ _ _ _ h
set_option maxRecDepth 100000 in
set_option maxHeartbeats 20000000 in
theorem ofR_c (w : World) (x : CtV) (Y : List Ans) (h : RdA w (slv x.va) Y) (hl : Y.length ≤ 1000) (hin : ∀ a ∈ Y, a.ins.length ≤ 1000) (m : Int) :
    Calls Try.prog 53 #[ctV x, .int .i64 m] w fun e w' => OfPost w Y m e w' := by
  obtain ⟨x0, x1, x2, x3, x4, ⟨x5, x6, x7⟩, ⟨x8, x9, x10⟩⟩ := x
  simp only [slv] at h
  obtain ⟨_, _, e1, hla, hca⟩ := h.form
  simp only [Value.slice.injEq] at e1
  obtain ⟨-, e1, -⟩ := e1
  have hx6m : x6 ≤ 1000 := by omega
  have hb0 := ((Keeps.refl [] (w.alloc (.cells #[.int .i64 x0, .int .i64 x1, .int .i64 x2, .int .u64 x3, .int .i64 x4, .slice x5 x6 x7, .slice x8 x9 x10] tCt))).alloc (.cells #[] tI)).block _ (by simp) (by simp) |>.trans (heap_alloc_new w (.cells #[.int .i64 x0, .int .i64 x1, .int .i64 x2, .int .u64 x3, .int .i64 x4, .slice x5 x6 x7, .slice x8 x9 x10] tCt))
  have hkA : Keeps [] w ((w.alloc (.cells #[.int .i64 x0, .int .i64 x1, .int .i64 x2, .int .u64 x3, .int .i64 x4, .slice x5 x6 x7, .slice x8 x9 x10] tCt)).alloc (.cells #[] tI)) := ((Keeps.refl _ _).alloc _).alloc _
  have hfr := (Sh.O.fresh shT (w.alloc (.cells #[.int .i64 x0, .int .i64 x1, .int .i64 x2, .int .u64 x3, .int .i64 x4, .slice x5 x6 x7, .slice x8 x9 x10] tCt)) w.heap.size tI (by simp)).r
  rw [show (w.alloc (.cells #[.int .i64 x0, .int .i64 x1, .int .i64 x2, .int .u64 x3, .int .i64 x4, .slice x5 x6 x7, .slice x8 x9 x10] tCt)).heap.size = w.heap.size + 1 by simp] at hfr
  replace h := Lib.hid h
  replace e1 := Lib.hid e1
  replace hb0 := Lib.hid hb0
  replace hkA := Lib.hid hkA
  replace hfr := Lib.hid hfr
  replace hin := Lib.hid hin
  simp only [ctV, slv]
  go_enter Try.func53, Try.ntmps53
  go_wp2
  generalize ((w.alloc (.cells #[.int .i64 x0, .int .i64 x1, .int .i64 x2, .int .u64 x3, .int .i64 x4, .slice x5 x6 x7, .slice x8 x9 x10] tCt)).alloc (.cells #[] tI)) = W at *
  obtain ⟨B, hB⟩ : ∃ B, w.heap.size = B := ⟨_, rfl⟩
  rw [hB] at hb0 hfr ⊢
  replace hB := Lib.hid hB
  go_loopw [5, 6] (fun ov i wr => ∃ (k : Nat) (L : List T3), i = .int .i64 k ∧ k ≤ x6 ∧ Hid (shT.R wr ov L) ∧ Hid (L = ofL (Y.take k) m) ∧ Hid (L.length ≤ 1000 * k) ∧ Hid (Keeps [] W wr)) (fun _ i _ => x6 - (intOf i).toNat)
  case atStart => exact ⟨0, [], rfl, by omega, hfr, Lib.hid rfl, Lib.hid (by simp), Lib.hid (Keeps.refl _ _)⟩
  case round =>
    obtain ⟨k, L, rfl, hk, hR, hL, hLl, hkw⟩ := hrel
    have hAr := (hkw.out.block _ (lt_of_blk hb0.out) (by simp)).trans hb0.out
    obtain ⟨i0, i1, i2, i3, i4, i5, i6, if', il⟩ := cl7 hAr
    have hkF := Lib.hid (hkA.out.trans hkw.out)
    obtain ⟨oa, oc, hov, hoc1, hoc2, _⟩ := hR.out.form
    subst hov
    have hoc3 : oc ≤ 9223372036854775807 := by unfold maxLen at hoc2; omega
    by_cases hlt : k < x6
    · have hlt2 : (k : Int) < x6 := by omega
      have hkl : k < Y.length := by rw [← e1.out]; exact hlt
      have hsucc := ofL_succ Y m k hkl
      obtain ⟨g, o, c', y, hv, hy, he⟩ := h.out.elem hkl
      rw [← e1.out] at hv
      cases hv
      obtain ⟨a, ha⟩ : ∃ a, Y[k] = a := ⟨_, rfl⟩
      have hia := hin.out _ (List.getElem_mem hkl)
      rw [ha] at hy hsucc hia
      obtain ⟨_, _, ev, hl1, hl2, _⟩ := hy.ins.form
      have hins := hy.ins
      have hm0 := hy.m
      obtain ⟨y0, y1, y2, y3, y4, y5, y6, y7, y8, y9⟩ := y
      simp only [AnV.v] at ev hins
      simp only at hm0
      simp only [Value.slice.injEq] at ev
      obtain ⟨-, ev, -⟩ := ev
      have hy8 : y8 ≤ 1000 := by omega
      have g0 := hkF.out.val (he 0 _ rfl)
      have g7 := hkF.out.val (he 7 _ rfl)
      simp only [AnV.v, Nat.add_zero] at g0 g7
      obtain ⟨N0, hN0⟩ : ∃ N, L.length = N := ⟨_, rfl⟩
      rw [hN0] at hR hLl ⊢
      replace ev := Lib.hid ev
      replace ha := Lib.hid ha
      replace hm0 := Lib.hid hm0
      replace hins := Lib.hid hins
      replace hN0 := Lib.hid hN0
      replace hsucc := Lib.hid hsucc
      by_cases hm : y0 = m
      case neg =>
        have b1 : (y0 != m) = true := by simpa using hm
        have hLs : Hid (L = ofL (Y.take (k + 1)) m) := Lib.hid (by rw [hsucc.out]; unfold ofA; rw [if_neg (by rw [← hm0.out]; exact hm)]; exact hL.out)
        have hLl2 : Hid (L.length ≤ 1000 * (k + 1)) := Lib.hid (by have := hLl.out; have := hN0.out; omega)
        replace hm := Lib.hid hm
        clear he hy
        go_wp2
        go_roundw
        case rel => exact ⟨k + 1, L, rfl, by omega, hR, hLs, hLl2, hkw⟩
        case measure => simp [intOf]; omega
      case pos =>
      have b1 : (y0 != m) = false := by simpa using hm
      have hLs : ofL (Y.take (k + 1)) m = a.ins.foldl (fun l x => putN x l) L := by rw [hsucc.out]; unfold ofA; rw [if_pos (by rw [← hm0.out]; exact hm), ← hL.out]
      replace hLs := Lib.hid hLs
      replace hm := Lib.hid hm
      have he7 := Lib.hid (he 7 _ rfl)
      clear he hy hl1 hl2 hia
      go_wp2
      generalize wr = W4 at *
      go_loopw [5, 7] (fun ov i wr => ∃ (q : Nat) (L2 : List T3), i = .int .i64 q ∧ q ≤ y8 ∧ Hid (shT.R wr ov L2) ∧ Hid (L2 = (a.ins.take q).foldl (fun l x => putN x l) L) ∧ Hid (L2.length ≤ 1000 * k + q) ∧ Hid (Keeps [] W4 wr)) (fun _ i _ => y8 - (intOf i).toNat)
      case atStart => exact ⟨0, L, rfl, by omega, hR, Lib.hid rfl, Lib.hid (by have := hLl.out; have := hN0.out; omega), Lib.hid (Keeps.refl _ _)⟩
      case round =>
        clear i0 i1 i2 i3 i4 i5 i6 if' il g0 g7
        obtain ⟨q, L2, rfl, hq, hR2, hL2, hL2l, hkq⟩ := hrel
        have hAq := (hkq.out.block _ (lt_of_blk hAr) (by simp)).trans hAr
        obtain ⟨i0, i1, i2, i3, i4, i5, i6, if', il⟩ := cl7 hAq
        have hkG := Lib.hid (hkF.out.trans hkq.out)
        have g7 := hkG.out.val he7.out
        simp only [AnV.v, Nat.add_zero] at g7
        obtain ⟨pa, pc, hpv, hpc1, hpc2, _⟩ := hR2.out.form
        subst hpv
        have hpc3 : pc ≤ 9223372036854775807 := by unfold maxLen at hpc2; omega
        obtain ⟨M, hM⟩ : ∃ N, L2.length = N := ⟨_, rfl⟩
        rw [hM] at hR2 hL2l ⊢
        replace hM := Lib.hid hM
        by_cases hltq : q < y8
        · have hlt2q : (q : Int) < y8 := by omega
          have hql : q < a.ins.length := by rw [← ev.out]; exact hltq
          have hps := put_succ a.ins L q hql
          obtain ⟨gi, oi, ci, hvi, hei⟩ := hins.out.elem hql
          rw [← ev.out] at hvi
          cases hvi
          obtain ⟨⟨n0, n1, n2⟩, hz⟩ : ∃ z, a.ins[q] = z := ⟨_, rfl⟩
          rw [hz] at hei hps
          rw [← hL2.out] at hps
          have t0 := hkG.out.val (hei 0 _ rfl)
          have t1 := hkG.out.val (hei 1 _ rfl)
          have t2 := hkG.out.val (hei 2 _ rfl)
          simp only [shT, Nat.add_zero] at t0 t1 t2
          have hbI := heap_alloc_new wr (.cells #[.int .i64 n0, .int .u64 n1, .int .i64 n2] tI)
          have hkI := (Keeps.refl [] wr).alloc (.cells #[.int .i64 n0, .int .u64 n1, .int .i64 n2] tI)
          have hRI := Lib.hid (hR2.out.keeps hkI)
          have hkqI := Lib.hid (hkq.out.trans hkI)
          replace hbI := Lib.hid hbI
          replace hps := Lib.hid hps
          replace hz := Lib.hid hz
          clear hei hkI
          go_upto_region 10 with fail
          generalize (wr.alloc (.cells #[.int .i64 n0, .int .u64 n1, .int .i64 n2] tI)) = WI at *
          obtain ⟨XI, hXI⟩ : ∃ X, wr.heap.size = X := ⟨_, rfl⟩
          rw [hXI] at hbI ⊢
          replace hXI := Lib.hid hXI
          clear t0 t1 t2 i0 i1 i2 i3 i4 i5 i6 if' il g7
          (go_upto_region 10 with fail; iterate 8 go_step)
          go_cut [9] from 47 to 119 (fun i wx => ∃ kk : Nat, i = .int .i64 kk ∧ kk ≤ M ∧ Hid (∀ j (hj : j < L2.length), j < kk → tlt L2[j] (n0, n1, n2)) ∧ Hid (∀ hj : kk < L2.length, ¬ tlt L2[kk] (n0, n1, n2)) ∧ Hid (Keeps [] WI wx))
          case first =>
            go_wp2
            go_loopw [9] (fun i wr => ∃ kk : Nat, i = .int .i64 kk ∧ kk ≤ M ∧ Hid (∀ j (hj : j < L2.length), j < kk → tlt L2[j] (n0, n1, n2)) ∧ Hid (Keeps [] WI wr)) (fun i _ => M - (intOf i).toNat)
            case atStart => exact ⟨0, rfl, by omega, Lib.hid (fun _ _ h => by omega), Lib.hid (Keeps.refl _ _)⟩
            case round =>
              obtain ⟨kk, rfl, hkk, hno, hkr⟩ := hrel
              obtain ⟨z0, z1, z2⟩ := cells3t ((hkr.out.block XI (lt_of_blk hbI.out) (by simp)).trans hbI.out)
              by_cases hltk : kk < M
              · have hkl2 : kk < L2.length := by rw [hM.out]; exact hltk
                obtain ⟨gp, op, cp, hvp, hep⟩ := (hRI.out.keeps hkr.out).elem hkl2
                rw [hM.out] at hvp
                cases hvp
                obtain ⟨⟨p0, p1, p2⟩, hp⟩ : ∃ x, L2[kk] = x := ⟨_, rfl⟩
                rw [hp] at hep
                have f0 := hep 0 _ rfl
                have f1 := hep 1 _ rfl
                simp only [shT, Nat.add_zero] at f0 f1
                have hyes : tlt (p0, p1, p2) (n0, n1, n2) → ∀ j (hj : j < L2.length), j < kk + 1 → tlt L2[j] (n0, n1, n2) := fun hn j hj hjk => by
                  by_cases e : j = kk
                  · subst e; rw [hp]; exact hn
                  · exact hno.out j hj (by omega)
                have hnot : ¬ tlt (p0, p1, p2) (n0, n1, n2) → ∀ hj : kk < L2.length, ¬ tlt L2[kk] (n0, n1, n2) := fun hn hj => by rw [hp]; exact hn
                replace hyes := Lib.hid hyes
                replace hnot := Lib.hid hnot
                replace hp := Lib.hid hp
                clear hep
                by_cases a0 : p0 < n0
                · have b0 : decide (p0 < n0) = true := by simpa using a0
                  have hy := Lib.hid (hyes.out (.inl a0))
                  replace a0 := Lib.hid a0
                  go_wp2
                  (refine wp_region_quiet_lit (by kernel_rfl) (by kernel_rfl) ?_; (repeat (first | go_big_quiet_step (fail) | quiet_step (fail))); with_reducible refine wpQuiet_nil ?_; intro _ hw'; obtain ⟨nq, hw''⟩ := hw'; subst hw'')
                  go_wp2
                  go_roundw
                  case rel => exact ⟨kk + 1, rfl, by omega, hy, Lib.hid (hkr.out.drewN _)⟩
                  case measure => simp [intOf]; omega
                · have b0 : decide (p0 < n0) = false := by simpa using a0
                  by_cases a1 : p0 = n0
                  · have b1 : (p0 == n0) = true := by simpa using a1
                    by_cases a2 : p1 < n1
                    · have b2 : decide ((p1 : Int) < (n1 : Int)) = true := by simp; omega
                      have hy := Lib.hid (hyes.out (.inr ⟨a1, a2⟩))
                      replace a0 := Lib.hid a0
                      replace a1 := Lib.hid a1
                      replace a2 := Lib.hid a2
                      go_wp2
                      (refine wp_region_quiet_lit (by kernel_rfl) (by kernel_rfl) ?_; (repeat (first | go_big_quiet_step (fail) | quiet_step (fail))); with_reducible refine wpQuiet_nil ?_; intro _ hw'; obtain ⟨nq, hw''⟩ := hw'; subst hw'')
                      go_wp2
                      go_roundw
                      case rel => exact ⟨kk + 1, rfl, by omega, hy, Lib.hid (hkr.out.drewN _)⟩
                      case measure => simp [intOf]; omega
                    · have b2 : decide ((p1 : Int) < (n1 : Int)) = false := by simp; omega
                      have hy := Lib.hid (hnot.out (by unfold tlt; simp only; omega))
                      replace a0 := Lib.hid a0
                      replace a1 := Lib.hid a1
                      replace a2 := Lib.hid a2
                      go_wp2
                      (refine wp_region_quiet_lit (by kernel_rfl) (by kernel_rfl) ?_; (repeat (first | go_big_quiet_step (fail) | quiet_step (fail))); with_reducible refine wpQuiet_nil ?_; intro _ hw'; obtain ⟨nq, hw''⟩ := hw'; subst hw'')
                      go_wp2
                      go_meet
                      case rel => exact ⟨kk, rfl, by omega, hno, hy, Lib.hid (hkr.out.drewN _)⟩
                  · have b1 : (p0 == n0) = false := by simpa using a1
                    have hy := Lib.hid (hnot.out (by unfold tlt; simp only; omega))
                    replace a0 := Lib.hid a0
                    replace a1 := Lib.hid a1
                    go_wp2
                    (refine wp_region_quiet_lit (by kernel_rfl) (by kernel_rfl) ?_; (repeat (first | go_big_quiet_step (fail) | quiet_step (fail))); with_reducible refine wpQuiet_nil ?_; intro _ hw'; obtain ⟨nq, hw''⟩ := hw'; subst hw'')
                    go_wp2
                    go_meet
                    case rel => exact ⟨kk, rfl, by omega, hno, hy, Lib.hid (hkr.out.drewN _)⟩
              · have hy : Hid (∀ hj : kk < L2.length, ¬ tlt L2[kk] (n0, n1, n2)) := Lib.hid (fun hj => absurd hj (by rw [hM.out]; exact hltk))
                have hlt2 : decide ((kk : Int) < (M : Int)) = false := by simp; omega
                go_wp2
                (refine wp_region_quiet_lit (by kernel_rfl) (by kernel_rfl) ?_; (repeat (first | go_big_quiet_step (fail) | quiet_step (fail))); with_reducible refine wpQuiet_nil ?_; intro _ hw'; obtain ⟨nq, hw''⟩ := hw'; subst hw'')
                go_wp2
                go_meet
                case rel => exact ⟨kk, rfl, by omega, hno, hy, Lib.hid (hkr.out.drewN _)⟩
          case rest =>
            obtain ⟨kk, rfl, hkk, hno, hst, hkr⟩ := hcut
            have hat := putN_at (n0, n1, n2) L2 kk (by rw [hM.out]; exact hkk) hno.out hst.out
            obtain ⟨z0, z1, z2⟩ := cells3t ((hkr.out.block XI (lt_of_blk hbI.out) (by simp)).trans hbI.out)
            have hRc := Lib.hid (hRI.out.keeps hkr.out)
            have hkc := Lib.hid (hkqI.out.trans hkr.out)
            replace hat := Lib.hid hat
            go_upto_region 13 with fail
            go_cut [106] from 47 to 119 (fun b wx => b = .bool (decide (¬ ∃ hi : kk < L2.length, L2[kk].1 = n0 ∧ L2[kk].2.1 = n1)) ∧ Hid (Keeps [] wc wx))
            case first =>
              by_cases hltk : kk < M
              · have hkl2 : kk < L2.length := by rw [hM.out]; exact hltk
                have bk : ((kk : Int) == (M : Int)) = false := by simp; omega
                obtain ⟨gp, op, cp, hvp, hep⟩ := hRc.out.elem hkl2
                rw [hM.out] at hvp
                cases hvp
                obtain ⟨⟨p0, p1, p2⟩, hp⟩ : ∃ x, L2[kk] = x := ⟨_, rfl⟩
                rw [hp] at hep
                have f0 := hep 0 _ rfl
                have f1 := hep 1 _ rfl
                simp only [shT, Nat.add_zero] at f0 f1
                have hdec : ∀ q : Bool, (q = true ↔ ¬ (p0 = n0 ∧ p1 = n1)) → decide (¬ ∃ hi : kk < L2.length, L2[kk].1 = n0 ∧ L2[kk].2.1 = n1) = q := fun q hq => by
                  rw [Bool.eq_iff_iff, decide_eq_true_iff, hq]
                  exact not_congr ⟨fun ⟨_, h1, h2⟩ => by rw [hp] at h1 h2; exact ⟨h1, h2⟩, fun ⟨h1, h2⟩ => ⟨hkl2, by rw [hp]; exact h1, by rw [hp]; exact h2⟩⟩
                replace hdec := Lib.hid hdec
                replace hp := Lib.hid hp
                clear hep
                by_cases a1 : p0 = n0
                · have b1 : (p0 != n0) = false := by simpa using a1
                  by_cases a2 : p1 = n1
                  · have b2 : ((p1 : Int) != (n1 : Int)) = false := by simp [a2]
                    have hd := Lib.hid (hdec.out false (by simp [a1, a2]))
                    replace a1 := Lib.hid a1
                    replace a2 := Lib.hid a2
                    go_wp2
                    (refine wp_region_quiet_lit (by kernel_rfl) (by kernel_rfl) ?_; (repeat (first | go_big_quiet_step (fail) | quiet_step (fail))); with_reducible refine wpQuiet_nil ?_; intro _ hw'; obtain ⟨nq, hw''⟩ := hw'; subst hw'')
                    go_wp2
                    go_meet
                    case rel => exact ⟨by rw [hd.out], Lib.hid ((Keeps.refl _ _).drewN _)⟩
                  · have b2 : ((p1 : Int) != (n1 : Int)) = true := by simp; omega
                    have hd := Lib.hid (hdec.out true (by simp [a1, a2]))
                    replace a1 := Lib.hid a1
                    replace a2 := Lib.hid a2
                    go_wp2
                    (refine wp_region_quiet_lit (by kernel_rfl) (by kernel_rfl) ?_; (repeat (first | go_big_quiet_step (fail) | quiet_step (fail))); with_reducible refine wpQuiet_nil ?_; intro _ hw'; obtain ⟨nq, hw''⟩ := hw'; subst hw'')
                    go_wp2
                    go_meet
                    case rel => exact ⟨by rw [hd.out], Lib.hid ((Keeps.refl _ _).drewN _)⟩
                · have b1 : (p0 != n0) = true := by simpa using a1
                  have hd := Lib.hid (hdec.out true (by simp [a1]))
                  replace a1 := Lib.hid a1
                  go_wp2
                  (refine wp_region_quiet_lit (by kernel_rfl) (by kernel_rfl) ?_; (repeat (first | go_big_quiet_step (fail) | quiet_step (fail))); with_reducible refine wpQuiet_nil ?_; intro _ hw'; obtain ⟨nq, hw''⟩ := hw'; subst hw'')
                  go_wp2
                  go_meet
                  case rel => exact ⟨by rw [hd.out], Lib.hid ((Keeps.refl _ _).drewN _)⟩
              · have hd : decide (¬ ∃ hi : kk < L2.length, L2[kk].1 = n0 ∧ L2[kk].2.1 = n1) = true := decide_eq_true (fun ⟨h1, _⟩ => by rw [hM.out] at h1; exact hltk h1)
                have bk : ((kk : Int) == (M : Int)) = true := by simp; omega
                replace hd := Lib.hid hd
                go_wp2
                (refine wp_region_quiet_lit (by kernel_rfl) (by kernel_rfl) ?_; (repeat (first | go_big_quiet_step (fail) | quiet_step (fail))); with_reducible refine wpQuiet_nil ?_; intro _ hw'; obtain ⟨nq, hw''⟩ := hw'; subst hw'')
                go_wp2
                go_meet
                case rel => exact ⟨by rw [hd.out], Lib.hid ((Keeps.refl _ _).drewN _)⟩
            case rest =>
              obtain ⟨rfl, hk4⟩ := hcut
              by_cases hfd : ∃ hi : kk < L2.length, L2[kk].1 = n0 ∧ L2[kk].2.1 = n1
              · have hres : Hid (L2 = (a.ins.take (q + 1)).foldl (fun l x => putN x l) L) := Lib.hid (by rw [hps.out, hat.out, if_pos hfd])
                rw [decide_eq_false (fun h => h hfd)]
                have hR4 := Lib.hid (hRc.out.keeps hk4.out)
                have hk5 := Lib.hid (hkc.out.trans hk4.out)
                have hl5 : Hid (L2.length ≤ 1000 * k + (q + 1)) := Lib.hid (by have := hL2l.out; have := hM.out; omega)
                replace hfd := Lib.hid hfd
                rw [← hM.out] at hR4 ⊢
                go_wp2
                go_roundw
                case rel => exact ⟨q + 1, L2, rfl, by omega, hR4, hres, hl5, hk5⟩
                case measure => simp [intOf]; omega
              · have hres : Hid (L2.take kk ++ (n0, n1, n2) :: L2.drop kk = (a.ins.take (q + 1)).foldl (fun l x => putN x l) L) := Lib.hid (by rw [hps.out, hat.out, if_neg hfd])
                rw [decide_eq_true hfd]
                have hR4 := hRc.out.keeps hk4.out
                have hk5 := Lib.hid (hkc.out.trans hk4.out)
                have hbI4 := (hk4.out.block XI (lt_of_blk ((hkr.out.block XI (lt_of_blk hbI.out) (by simp)).trans hbI.out)) (by simp)).trans ((hkr.out.block XI (lt_of_blk hbI.out) (by simp)).trans hbI.out)
                have hXl := lt_of_blk hbI4
                have hT1 := hR4.init' kk (by rw [hM.out]; exact hkk)
                have hT2 := hR4.tail' kk (by rw [hM.out]; exact hkk)
                rw [hM.out] at hT2
                replace hT2 : shT.R wc (.slice (if pc = kk then pa else pa.map (·.add (kk * 3))) (M - kk) (pc - kk)) (L2.drop kk) := hT2
                have hlt1 : (L2.take kk).length = kk := by rw [List.length_take, hM.out]; omega
                have hlt2 : (L2.drop kk).length = M - kk := by rw [List.length_drop, hM.out]
                have hMb : M ≤ 10000000 := by have := hL2l.out; omega
                have f1 : (0 : Int) ≤ (kk : Int) := by omega
                have f2 : (kk : Int) ≤ (pc : Int) := by have := hM.out; omega
                have f3 : (kk : Int) ≤ (M : Int) := by omega
                have hfrE := Sh.O.fresh shT wc wc.heap.size tI (Nat.le_refl _)
                have hkE := (Keeps.refl [] wc).alloc (.cells #[] tI)
                have hsE : wc.heap.size ≤ (wc.alloc (.cells #[] tI)).heap.size := by simp
                replace hT1 := Lib.hid hT1
                replace hT2 := Lib.hid hT2
                replace hlt1 := Lib.hid hlt1
                replace hlt2 := Lib.hid hlt2
                replace hfrE := Lib.hid hfrE
                replace hkE := Lib.hid hkE
                replace hfd := Lib.hid hfd
                replace hbI4 := Lib.hid hbI4
                clear hR4 hk4 z0 z1 z2
                go_upto_region 15 with (first
                  | (at_builtin; (refine Sh.wpl_app shT wc.heap.size infoI rfl Try.underlying39 (.slice (some ⟨wc.heap.size, 0, none⟩) 0 0) (.slice pa kk pc) [] (L2.take kk) rfl _ _ rfl rfl rfl hfrE.out (hT1.out.keeps hkE.out) (by simp only [List.length_nil, hlt1.out]; omega) hsE ?_; intro v1 w1 hO1 hG1; rw [List.nil_append] at hO1; have hk1 := Lib.hid (hG1.keeps (a := wc) hkE.out (fun b hb => by simp [Value.ownBlock] at hb; omega)); obtain ⟨la, lc, rfl⟩ := hO1.form; rw [hlt1.out] at hO1 ⊢; replace hO1 := Lib.hid hO1; clear hG1))
                  | fail)
                obtain ⟨z0, z1, z2⟩ := cells3t ((hk1.out.block XI hXl (by simp)).trans hbI4.out)
                refine Free.wp_region_chain (fun i => i == 2 || i == 3 || i == 7) (fun i => true) (fun _ b => wc.heap.size ≤ b) (by kernel_rfl) (by kernel_rfl) (by kernel_rfl) ?_
                (repeat (first | (apply Free.cw_pure rfl rfl; (intro w'; go_simp <;> exact rfl); go_frame) | (apply Free.cw_steady rfl rfl rfl; (intro w' hS; have q0 := Free.sx_cell hS z0 (fun _ _ hT => absurd hT (by omega)); have q1 := Free.sx_cell hS z1 (fun _ _ hT => absurd hT (by omega)); have q2 := Free.sx_cell hS z2 (fun _ _ hT => absurd hT (by omega)); go_simp <;> exact rfl); go_frame) | (refine Free.cw_skip rfl ?_; go_frame)))
                refine Free.cw_loud rfl rfl (fun K hK => ?_)
                go_wp2
                refine hK _ _ rfl (Free.KeepsP.alloc _ _ _) ?_
                clear hK K
                have hmade := ((Sh.O.one shT w1 (n0, n1, n2) #[.int .i64 n0, .int .u64 n1, .int .i64 n2] tI 0 rfl (Nat.zero_le _)).r).keeps (Keeps.refl [] _).drew
                have hA9 : Keeps [] w1 (w1.alloc (.cells #[.int .i64 n0, .int .u64 n1, .int .i64 n2] tI)).drew := ((Keeps.refl _ _).alloc _).drew
                obtain ⟨bm, ebm⟩ : ∃ x, w1.heap.size = x := ⟨_, rfl⟩
                rw [ebm] at hmade ⊢
                generalize (w1.alloc (.cells #[.int .i64 n0, .int .u64 n1, .int .i64 n2] tI)).drew = w2 at *
                have hO2 := hO1.out.keeps hA9
                have hk2 := hk1.out.trans hA9
                replace hmade := Lib.hid hmade
                replace hO2 := Lib.hid hO2
                replace hk2 := Lib.hid hk2
                replace ebm := Lib.hid ebm
                clear hA9 hk1 hO1
                (repeat (first | (apply Free.cw_pure rfl rfl; (intro w'; go_simp <;> exact rfl); go_frame) | (apply Free.cw_steady rfl rfl rfl; (intro w' hS; have q0 := Free.sx_cell hS z0 (fun _ _ hT => absurd hT (by omega)); have q1 := Free.sx_cell hS z1 (fun _ _ hT => absurd hT (by omega)); have q2 := Free.sx_cell hS z2 (fun _ _ hT => absurd hT (by omega)); go_simp <;> exact rfl); go_frame) | (refine Free.cw_skip rfl ?_; go_frame)))
                refine Free.cw_loud rfl rfl (fun K hK => ?_)
                refine Sh.owp_app shT wc.heap.size infoI rfl Try.underlying39 (.slice la kk lc) (.slice (some ⟨bm, 0, none⟩) 1 1) (L2.take kk) [(n0, n1, n2)] (.tmp 112) (.tmp 114) rfl rfl rfl hO2.out hmade.out (by rw [hlt1.out]; simp; omega) hk2.out.size ?_
                intro v5 w5 hO5 hG5
                refine hK _ _ rfl (Free.KeepsP.of hG5.keepsO (fun b hb => hO2.out.ge b (by simpa using hb))) ?_
                clear hK K
                have hk5w := Lib.hid (hk2.out.fresh hG5.keepsO (fun b hb => .inr (hO2.out.ge b (by simpa using hb))))
                have hlen5 : (L2.take kk ++ [(n0, n1, n2)]).length = kk + 1 := by rw [List.length_append, hlt1.out]; rfl
                replace hO5 := Lib.hid hO5
                obtain ⟨a5, c5, rfl⟩ := hO5.out.form
                rw [hlen5] at hO5 ⊢
                replace hlen5 := Lib.hid hlen5
                clear hG5 hmade hO2 hk2
                (repeat (first | (apply Free.cw_pure rfl rfl; (intro w'; go_simp <;> exact rfl); go_frame) | (apply Free.cw_steady rfl rfl rfl; (intro w' hS; have q0 := Free.sx_cell hS z0 (fun _ _ hT => absurd hT (by omega)); have q1 := Free.sx_cell hS z1 (fun _ _ hT => absurd hT (by omega)); have q2 := Free.sx_cell hS z2 (fun _ _ hT => absurd hT (by omega)); go_simp <;> exact rfl); go_frame) | (refine Free.cw_skip rfl ?_; go_frame)))
                refine Free.cw_loud rfl rfl (fun K hK => ?_)
                refine Sh.owp_app shT wc.heap.size infoI rfl Try.underlying39 (.slice a5 (kk + 1) c5) (.slice (if pc = kk then pa else pa.map (·.add (kk * 3))) (M - kk) (pc - kk)) (L2.take kk ++ [(n0, n1, n2)]) (L2.drop kk) (.tmp 115) (.tmp 118) rfl rfl rfl hO5.out (hT2.out.keeps hk5w.out) (by rw [hlen5.out, hlt2.out]; omega) hk5w.out.size ?_
                intro v6 w6 hO6 hG6
                refine hK _ _ rfl (Free.KeepsP.of hG6.keepsO (fun b hb => hO5.out.ge b (by simpa using hb))) ?_
                clear hK K
                have hk6w := Lib.hid (hk5w.out.fresh hG6.keepsO (fun b hb => .inr (hO5.out.ge b (by simpa using hb))))
                rw [List.append_assoc, List.singleton_append, hres.out] at hO6
                have hR6 := Lib.hid hO6.r
                have hl6 : Hid (((a.ins.take (q + 1)).foldl (fun l x => putN x l) L).length ≤ 1000 * k + (q + 1)) := Lib.hid (by rw [← hres.out]; simp only [List.length_append, List.length_cons, hlt1.out, hlt2.out]; have := hL2l.out; omega)
                have hk7 := Lib.hid (hk5.out.trans hk6w.out)
                clear hG6 hO6
                (repeat (first | (apply Free.cw_pure rfl rfl; (intro w'; go_simp <;> exact rfl); go_frame) | (apply Free.cw_steady rfl rfl rfl; (intro w' hS; have q0 := Free.sx_cell hS z0 (fun _ _ hT => absurd hT (by omega)); have q1 := Free.sx_cell hS z1 (fun _ _ hT => absurd hT (by omega)); have q2 := Free.sx_cell hS z2 (fun _ _ hT => absurd hT (by omega)); go_simp <;> exact rfl); go_frame) | (refine Free.cw_skip rfl ?_; go_frame)))
                refine Free.cw_nil ?_
                go_wp2
                go_roundw
                case rel => exact ⟨q + 1, _, rfl, by omega, hR6, Lib.hid rfl, hl6, hk7⟩
                case measure => simp [intOf]; omega

        · have hlt2q : ¬ ((q : Int) < y8) := by omega
          have hqy : q = a.ins.length := by have := ev.out; omega
          have hLe : Hid (L2 = ofL (Y.take (k + 1)) m) := Lib.hid (by rw [hLs.out, hL2.out, hqy, List.take_length])
          have hLl2 : Hid (L2.length ≤ 1000 * (k + 1)) := Lib.hid (by have := hL2l.out; have := hM.out; omega)
          have hkz := Lib.hid (hkw.out.trans hkq.out)
          replace hqy := Lib.hid hqy
          go_wp2
          go_roundw
          case rel => exact ⟨k + 1, L2, rfl, by omega, hR2, hLe, hLl2, hkz⟩
          case measure => simp [intOf]; omega
    · have hlt2 : ¬ ((k : Int) < x6) := by omega
      have hkY : k = Y.length := by have := e1.out; omega
      have hLe : Hid (L = ofL Y m) := Lib.hid (by rw [hL.out, hkY, List.take_length])
      replace hkY := Lib.hid hkY
      go_wp2
      go_ret
      exact ⟨_, rfl, by rw [← hLe.out]; exact hR.out, hkF.out⟩
end Go.Proofs.Ytiplgpefapeapaa

namespace Go.Proofs.Ytiplgpefapeapaa
open Go.RowKit

theorem outR_at {Y : List Ans} {m cl : Int} {n k : Nat} (hk : k < (ofL Y m).length) (hno : ∀ j (hj : j < (ofL Y m).length), j < k → ¬ ((ofL Y m)[j].1 = cl ∧ (ofL Y m)[j].2.1 = n)) (hq : (ofL Y m)[k].1 = cl ∧ (ofL Y m)[k].2.1 = n) : outR Y (m, cl, n) = some (ofL Y m)[k].2.2 := by
  unfold outR
  have : (ofL Y m).find? (fun x => decide (x.1 = cl ∧ x.2.1 = n)) = some (ofL Y m)[k] := List.find?_eq_some_iff_getElem.2 ⟨by simpa using hq, k, hk, rfl, fun j hj => by rw [Bool.not_eq_true', decide_eq_false_iff_not]; exact hno j (by omega) hj⟩
  simp only [this, Option.map_some]
theorem outR_no {Y : List Ans} {m cl : Int} {n : Nat} (hno : ∀ j (hj : j < (ofL Y m).length), ¬ ((ofL Y m)[j].1 = cl ∧ (ofL Y m)[j].2.1 = n)) : outR Y (m, cl, n) = none := by
  unfold outR
  have : (ofL Y m).find? (fun x => decide (x.1 = cl ∧ x.2.1 = n)) = none := List.find?_eq_none.2 (fun c hc => by
    obtain ⟨j, hj, rfl⟩ := List.mem_iff_getElem.1 hc
    rw [decide_eq_true_iff]
    exact hno j hj)
  simp only [this, Option.map_none]
set_option maxRecDepth 100000 in
set_option maxHeartbeats 8000000 in
theorem outS_c (w : World) (x : CtV) (Y : List Ans) (h : RdA w (slv x.va) Y) (hl : Y.length ≤ 1000) (hin : ∀ a ∈ Y, a.ins.length ≤ 1000) (m cl : Int) (n : Nat) :
    Calls Try.prog 51 #[ctV x, .int .i64 m, .int .i64 cl, .int .u64 n] w fun e w' => OutPost w (outR Y (m, cl, n)) e w' := by
  have hof := fun (W : World) (hk : Keeps [] w W) => ofR_c W x Y (h.keeps hk) hl hin m
  obtain ⟨x0, x1, x2, x3, x4, ⟨x5, x6, x7⟩, ⟨x8, x9, x10⟩⟩ := x
  simp only [ctV, slv] at hof
  have hkA := (Keeps.refl [] w).alloc (.cells #[.int .i64 x0, .int .i64 x1, .int .i64 x2, .int .u64 x3, .int .i64 x4, .slice x5 x6 x7, .slice x8 x9 x10] tCt)
  have hA := heap_alloc_new w (.cells #[.int .i64 x0, .int .i64 x1, .int .i64 x2, .int .u64 x3, .int .i64 x4, .slice x5 x6 x7, .slice x8 x9 x10] tCt)
  obtain ⟨r, hr⟩ : ∃ r, outR Y (m, cl, n) = r := ⟨_, rfl⟩
  rw [hr]
  replace hof := Lib.hid hof
  replace hkA := Lib.hid hkA
  replace hA := Lib.hid hA
  replace hr := Lib.hid hr
  clear h hin hl
  simp only [ctV, slv]
  go_enter Try.func51, Try.ntmps51
  go_upto_region 1 with fail
  generalize (w.alloc (.cells #[.int .i64 x0, .int .i64 x1, .int .i64 x2, .int .u64 x3, .int .i64 x4, .slice x5 x6 x7, .slice x8 x9 x10] tCt)) = W at *
  obtain ⟨B, hB⟩ : ∃ B, w.heap.size = B := ⟨_, rfl⟩
  rw [hB] at hA ⊢
  obtain ⟨i0, i1, i2, i3, i4, i5, i6, if', il⟩ := cl7 hA.out
  go_wp2_with fail
  refine (hof.out _ hkA.out).mono ?_
  rintro e w1 ⟨v, rfl, hR, hk1⟩
  have hk01 := Lib.hid (hkA.out.trans hk1)
  clear i0 i1 i2 i3 i4 i5 i6 if' il hk1 hof
  obtain ⟨a, c, hv, hc1, hc2, _⟩ := hR.form
  subst hv
  have hc3 : c ≤ 9223372036854775807 := by unfold maxLen at hc2; omega
  obtain ⟨L, hL⟩ : ∃ L, ofL Y m = L := ⟨_, rfl⟩
  have hat := fun k => outR_at (Y := Y) (m := m) (cl := cl) (n := n) (k := k)
  have hno' := outR_no (Y := Y) (m := m) (cl := cl) (n := n)
  rw [hL] at hat hno' hR hc1 ⊢
  rw [hr.out] at hat hno'
  obtain ⟨N, hN⟩ : ∃ N, L.length = N := ⟨_, rfl⟩
  rw [hN] at hR hc1 ⊢
  replace hR := Lib.hid hR
  replace hN := Lib.hid hN
  replace hat := Lib.hid hat
  replace hno' := Lib.hid hno'
  replace hL := Lib.hid hL
  go_wp2
  go_loopw [11] (fun i wr => ∃ k : Nat, i = .int .i64 k ∧ k ≤ N ∧ Hid (∀ j (hj : j < L.length), j < k → ¬ (L[j].1 = cl ∧ L[j].2.1 = n)) ∧ Hid (Keeps [] w1 wr)) (fun i _ => N - (intOf i).toNat)
  case atStart => exact ⟨0, rfl, by omega, Lib.hid (fun _ _ h => by omega), Lib.hid (Keeps.refl _ _)⟩
  case round =>
    obtain ⟨k, rfl, hk, hno, hkw⟩ := hrel
    have hkF := Lib.hid (hk01.out.trans hkw.out)
    by_cases hlt : k < N
    · have hlt2 : (k : Int) < N := by omega
      have hkl : k < L.length := by rw [hN.out]; exact hlt
      obtain ⟨g, o, c', hv, he⟩ := (hR.out.keeps hkw.out).elem hkl
      rw [hN.out] at hv
      cases hv
      obtain ⟨⟨z0, z1, z2⟩, hz⟩ : ∃ z, L[k] = z := ⟨_, rfl⟩
      rw [hz] at he
      have t0 := he 0 _ rfl
      have t1 := he 1 _ rfl
      have t2 := he 2 _ rfl
      simp only [shT, Nat.add_zero] at t0 t1 t2
      have hno2 : ¬ (z0 = cl ∧ z1 = n) → ∀ j (hj : j < L.length), j < k + 1 → ¬ (L[j].1 = cl ∧ L[j].2.1 = n) := fun hn j hj hjk => by
        by_cases e : j = k
        · subst e; rw [hz]; exact hn
        · exact hno.out j hj (by omega)
      replace hno2 := Lib.hid hno2
      replace hz := Lib.hid hz
      clear he
      by_cases a0 : z0 = cl
      · have b0 : (z0 == cl) = true := by simpa using a0
        by_cases a1 : z1 = n
        · have b1 : ((z1 : Int) == (n : Int)) = true := by simp [a1]
          have hd : r = some z2 := by
            have := hat.out k hkl hno.out (by rw [hz.out]; exact ⟨a0, a1⟩)
            rw [this, hz.out]
          replace a0 := Lib.hid a0
          replace a1 := Lib.hid a1
          replace hd := Lib.hid hd
          go_wp2
          go_ret2
          exact ⟨by rw [hd.out]; rfl, hkF.out⟩
        · have b1 : ((z1 : Int) == (n : Int)) = false := by simp; omega
          have h2 := Lib.hid (hno2.out (fun h => a1 h.2))
          replace a0 := Lib.hid a0
          replace a1 := Lib.hid a1
          go_wp2
          go_roundw
          case rel => exact ⟨k + 1, rfl, by omega, h2, hkw⟩
          case measure => simp [intOf]; omega
      · have b0 : (z0 == cl) = false := by simpa using a0
        have h2 := Lib.hid (hno2.out (fun h => a0 h.1))
        replace a0 := Lib.hid a0
        go_wp2
        go_roundw
        case rel => exact ⟨k + 1, rfl, by omega, h2, hkw⟩
        case measure => simp [intOf]; omega
    · have hlt2 : ¬ ((k : Int) < N) := by omega
      have hd : r = none := hno'.out (fun j hj => hno.out j hj (by have := hN.out; omega))
      replace hd := Lib.hid hd
      go_wp2
      go_ret2
      exact ⟨by rw [hd.out]; rfl, hkF.out⟩
end Go.Proofs.Ytiplgpefapeapaa

namespace Go.Proofs.Ytiplgpefapeapaa

/-- Every inset has the stamp that the specification finds first. -/
def stB (Y : List Ans) : Bool := Y.all (fun a => a.ins.all (fun x => decide ((outR Y (a.m, x.1, x.2.1)).getD 0 = x.2.2)))
def consB (Y : List Ans) : Bool := epB Y && stB Y
def accB (Y : List Ans) : Bool := Y.all (fun a => a.kn && !a.rt && a.ins.all (fun x => hasA Y (x.1, a.m, x.2.1)))
def chkR (c : Ct) : Int := if wf c = true then (if hasA c.an (kq c) = true ∧ consB c.an = true ∧ accB c.an = true ∧ (mR c.an).map (clmR c.an) = c.cl then 0 else 15) else 1
theorem outR_in {Y : List Ans} {a : Ans} (ha : a ∈ Y) {x : T3} (hx : x ∈ a.ins) : (outR Y (a.m, x.1, x.2.1)).getD 0 = x.2.2 ↔ MapS.get (a.m, x.1, x.2.1) (outsOf Y) = some x.2.2 := by
  rw [outR_eq]
  have := (outsOf_some Y (a.m, x.1, x.2.1)).2 ⟨a, ha, x, hx, rfl⟩
  obtain ⟨y, hy⟩ := Option.isSome_iff_exists.1 this
  rw [hy]
  simp
theorem chkR_eq (c : Ct) : chkR c = chk c := by
  unfold chkR chk
  by_cases hw : wf c = true
  case neg => rw [if_neg hw, if_neg hw]
  case pos =>
  rw [if_pos hw, if_pos hw]
  have hs : SrtA c.an := incA_srt (by unfold wf at hw; simp only [Bool.and_eq_true] at hw; exact hw.1.1.2)
  have key : (hasA c.an (kq c) = true ∧ consB c.an = true ∧ accB c.an = true ∧ (mR c.an).map (clmR c.an) = c.cl) ↔ goodB c = true := by
    unfold goodB consB accB
    simp only [Bool.and_eq_true, decide_eq_true_eq, List.all_eq_true]
    constructor
    · rintro ⟨h1, ⟨h2, h3⟩, h4, h5⟩
      refine ⟨⟨⟨h1, h2⟩, fun a ha => ?_⟩, ?_⟩
      · obtain ⟨h6, h7⟩ := h4 a ha
        unfold ansB
        simp only [Bool.and_eq_true, List.all_eq_true]
        refine ⟨h6, fun x hx => ?_⟩
        unfold insB
        rw [Bool.and_eq_true, decide_eq_true_eq]
        refine ⟨(outR_in ha hx).1 ?_, h7 x hx⟩
        unfold stB at h3
        simp only [List.all_eq_true, decide_eq_true_eq] at h3
        exact h3 a ha x hx
      · rw [← h5, clmsR_eq hs h2]
    · rintro ⟨⟨⟨h1, h2⟩, h3⟩, h4⟩
      have h5 : ∀ a ∈ c.an, (a.kn = true ∧ (!a.rt) = true) ∧ ∀ x ∈ a.ins, MapS.get (a.m, x.1, x.2.1) (outsOf c.an) = some x.2.2 ∧ hasA c.an (x.1, a.m, x.2.1) = true := fun a ha => by
        have := h3 a ha
        unfold ansB at this
        simp only [Bool.and_eq_true, List.all_eq_true] at this
        refine ⟨this.1, fun x hx => ?_⟩
        have h6 := this.2 x hx
        unfold insB at h6
        rw [Bool.and_eq_true, decide_eq_true_eq] at h6
        exact h6
      refine ⟨h1, ⟨h2, ?_⟩, fun a ha => ⟨(h5 a ha).1, fun x hx => ((h5 a ha).2 x hx).2⟩, ?_⟩
      · unfold stB
        simp only [List.all_eq_true, decide_eq_true_eq]
        exact fun a ha x hx => (outR_in ha hx).2 ((h5 a ha).2 x hx).1
      · rw [h4, clmsR_eq hs h2]
  by_cases hg : goodB c = true
  · rw [if_pos hg, if_pos (key.2 hg)]
  · rw [if_neg hg, if_neg (fun h => hg (key.1 h))]
end Go.Proofs.Ytiplgpefapeapaa

namespace Go.Proofs.Ytiplgpefapeapaa
open Go.RowKit

theorem cons_badE {Y : List Ans} {k i : Nat} (hk : k < Y.length) (hi : i < Y.length) (hm : Y[k].m = Y[i].m) (he : Y[k].ep ≠ Y[i].ep) : consB Y = false := by
  refine Bool.eq_false_iff.2 (fun h => he ?_)
  unfold consB at h
  rw [Bool.and_eq_true] at h
  exact epB_iff.1 h.1 _ (List.getElem_mem hk) _ (List.getElem_mem hi) hm
theorem cons_badS {Y : List Ans} {i q : Nat} (hi : i < Y.length) (hq : q < Y[i].ins.length) (he : (outR Y (Y[i].m, Y[i].ins[q].1, Y[i].ins[q].2.1)).getD 0 ≠ Y[i].ins[q].2.2) : consB Y = false := by
  refine Bool.eq_false_iff.2 (fun h => he ?_)
  unfold consB stB at h
  simp only [Bool.and_eq_true, List.all_eq_true, decide_eq_true_eq] at h
  exact h.2 _ (List.getElem_mem hi) _ (List.getElem_mem hq)
theorem cons_good {Y : List Ans} (h : ∀ i (hi : i < Y.length), (∀ k (hk : k < Y.length), k < i → Y[k].m = Y[i].m → Y[k].ep = Y[i].ep) ∧ ∀ q (hq : q < Y[i].ins.length), (outR Y (Y[i].m, Y[i].ins[q].1, Y[i].ins[q].2.1)).getD 0 = Y[i].ins[q].2.2) : consB Y = true := by
  unfold consB
  rw [Bool.and_eq_true]
  constructor
  · refine epB_iff.2 (fun a ha b hb hm => ?_)
    obtain ⟨i, hi, rfl⟩ := List.getElem_of_mem ha
    obtain ⟨j, hj, rfl⟩ := List.getElem_of_mem hb
    rcases Nat.lt_trichotomy i j with e | e | e
    · exact (h j hj).1 i hi e hm
    · subst e; rfl
    · exact ((h i hi).1 j hj e hm.symm).symm
  · unfold stB
    simp only [List.all_eq_true, decide_eq_true_eq]
    intro a ha x hx
    obtain ⟨i, hi, rfl⟩ := List.getElem_of_mem ha
    obtain ⟨q, hq, rfl⟩ := List.getElem_of_mem hx
    exact (h i hi).2 q hq
set_option maxRecDepth 100000 in
set_option maxHeartbeats 16000000 in
theorem consR_c (w : World) (x : CtV) (Y : List Ans) (h : RdA w (slv x.va) Y) (hl : Y.length ≤ 1000) (hin : ∀ a ∈ Y, a.ins.length ≤ 1000) :
    Calls Try.prog 22 #[ctV x] w fun e w' => e = .returned (.bool (consB Y)) ∧ Keeps [] w w' := by
  have hof := fun (W : World) (hk : Keeps [] w W) => outS_c W x Y (h.keeps hk) hl hin
  obtain ⟨x0, x1, x2, x3, x4, ⟨x5, x6, x7⟩, ⟨x8, x9, x10⟩⟩ := x
  simp only [ctV, slv] at hof
  simp only [slv] at h
  obtain ⟨_, _, e1, hla, hca⟩ := h.form
  simp only [Value.slice.injEq] at e1
  obtain ⟨-, e1, -⟩ := e1
  have hx6m : x6 ≤ 1000 := by omega
  have hkA := (Keeps.refl [] w).alloc (.cells #[.int .i64 x0, .int .i64 x1, .int .i64 x2, .int .u64 x3, .int .i64 x4, .slice x5 x6 x7, .slice x8 x9 x10] tCt)
  have hA := heap_alloc_new w (.cells #[.int .i64 x0, .int .i64 x1, .int .i64 x2, .int .u64 x3, .int .i64 x4, .slice x5 x6 x7, .slice x8 x9 x10] tCt)
  obtain ⟨r, hr⟩ : ∃ r, consB Y = r := ⟨_, rfl⟩
  have hbE := fun k i hk hi => cons_badE (Y := Y) (k := k) (i := i) hk hi
  have hbS := fun i q hi hq => cons_badS (Y := Y) (i := i) (q := q) hi hq
  have hgd := cons_good (Y := Y)
  rw [hr] at hbE hbS hgd ⊢
  have hY := Lib.hid h
  replace hof := Lib.hid hof
  replace hr := Lib.hid hr
  replace hbE := Lib.hid hbE
  replace hbS := Lib.hid hbS
  replace hgd := Lib.hid hgd
  replace e1 := Lib.hid e1
  replace hA := Lib.hid hA
  replace hkA := Lib.hid hkA
  replace hin := Lib.hid hin
  clear h
  simp only [ctV, slv]
  go_enter Try.func22, Try.ntmps22
  go_upto_region 1 with fail
  generalize (w.alloc (.cells #[.int .i64 x0, .int .i64 x1, .int .i64 x2, .int .u64 x3, .int .i64 x4, .slice x5 x6 x7, .slice x8 x9 x10] tCt)) = W at *
  obtain ⟨B, hB⟩ : ∃ B, w.heap.size = B := ⟨_, rfl⟩
  rw [hB] at hA ⊢
  replace hB := Lib.hid hB
  go_wp2
  go_loopw [3] (fun i wr => ∃ k : Nat, i = .int .i64 k ∧ k ≤ x6 ∧ Hid (∀ i (hi : i < Y.length), i < k → (∀ k (hk : k < Y.length), k < i → Y[k].m = Y[i].m → Y[k].ep = Y[i].ep) ∧ ∀ q (hq : q < Y[i].ins.length), (outR Y (Y[i].m, Y[i].ins[q].1, Y[i].ins[q].2.1)).getD 0 = Y[i].ins[q].2.2) ∧ Hid (Keeps [] W wr)) (fun i _ => x6 - (intOf i).toNat)
  case atStart => exact ⟨0, rfl, by omega, Lib.hid (fun _ _ h => by omega), Lib.hid (Keeps.refl _ _)⟩
  case round =>
    obtain ⟨k, rfl, hk, hno, hkw⟩ := hrel
    have hAr := (hkw.out.block _ (lt_of_blk hA.out) (by simp)).trans hA.out
    obtain ⟨i0, i1, i2, i3, i4, i5, i6, if', il⟩ := cl7 hAr
    have hkF := Lib.hid (hkA.out.trans hkw.out)
    by_cases hlt : k < x6
    · have hlt2 : (k : Int) < x6 := by omega
      have hkl : k < Y.length := by rw [← e1.out]; exact hlt
      obtain ⟨g, o, c', y, hv, hy, he⟩ := hY.out.elem hkl
      rw [← e1.out] at hv
      cases hv
      obtain ⟨a, ha⟩ : ∃ a, Y[k] = a := ⟨_, rfl⟩
      have hia := hin.out _ (List.getElem_mem hkl)
      have hbE2 := fun j hj => hbE.out j k hj hkl
      have hbS2 := fun q => hbS.out k q hkl
      rw [ha] at hy hia hbE2 hbS2
      obtain ⟨_, _, ev, hl1, hl2, _⟩ := hy.ins.form
      have hins := hy.ins
      have m0 := hy.m
      have m3 := hy.ep
      obtain ⟨y0, y1, y2, y3, y4, y5, y6, y7, y8, y9⟩ := y
      simp only [AnV.v] at ev hins
      simp only at m0 m3
      simp only [Value.slice.injEq] at ev
      obtain ⟨-, ev, -⟩ := ev
      have hy8 : y8 ≤ 1000 := by omega
      have e0 := hkF.out.val (he 0 _ rfl)
      have e1' := hkF.out.val (he 1 _ rfl)
      have e2 := hkF.out.val (he 2 _ rfl)
      have e3 := hkF.out.val (he 3 _ rfl)
      have e4 := hkF.out.val (he 4 _ rfl)
      have e5 := hkF.out.val (he 5 _ rfl)
      have e6 := hkF.out.val (he 6 _ rfl)
      have e7 := hkF.out.val (he 7 _ rfl)
      simp only [AnV.v, Nat.add_zero] at e0 e1' e2 e3 e4 e5 e6 e7
      have hbN := heap_alloc_new wr (.cells #[.int .i64 y0, .int .i64 y1, .int .u64 y2, .int .i64 y3, .bool y4, .bool y5, .int .i64 y6, .slice y7 y8 y9] tA)
      have hka := (Keeps.refl [] wr).alloc (.cells #[.int .i64 y0, .int .i64 y1, .int .u64 y2, .int .i64 y3, .bool y4, .bool y5, .int .i64 y6, .slice y7 y8 y9] tA)
      have hAn := (hka.block _ (lt_of_blk hAr) (by simp)).trans hAr
      have hkn := Lib.hid (hkw.out.trans hka)
      have hkG := Lib.hid (hkF.out.trans hka)
      replace ha := Lib.hid ha
      replace ev := Lib.hid ev
      replace m0 := Lib.hid m0
      replace m3 := Lib.hid m3
      replace hins := Lib.hid hins
      replace hbE2 := Lib.hid hbE2
      replace hbS2 := Lib.hid hbS2
      replace hbN := Lib.hid hbN
      replace hAn := Lib.hid hAn
      clear he hy hka hl1 hl2 hia
      go_upto_region 5 with fail
      generalize (wr.alloc (.cells #[.int .i64 y0, .int .i64 y1, .int .u64 y2, .int .i64 y3, .bool y4, .bool y5, .int .i64 y6, .slice y7 y8 y9] tA)) = WN at *
      obtain ⟨XN, hXN⟩ : ∃ X, wr.heap.size = X := ⟨_, rfl⟩
      rw [hXN] at hbN ⊢
      replace hXN := Lib.hid hXN
      clear i0 i1 i2 i3 i4 i5 i6 if' il e0 e1' e2 e3 e4 e5 e6 e7
      go_wp2
      go_loopw [5] (fun i wx => ∃ j : Nat, i = .int .i64 j ∧ j ≤ k ∧ Hid (∀ l (hl : l < Y.length), l < j → Y[l].m = a.m → Y[l].ep = a.ep) ∧ Hid (Keeps [] WN wx)) (fun i _ => k - (intOf i).toNat)
      case atStart => exact ⟨0, rfl, by omega, Lib.hid (fun _ _ h => by omega), Lib.hid (Keeps.refl _ _)⟩
      case round =>
        obtain ⟨j, rfl, hj, hep, hkx⟩ := hrel
        have hAx := (hkx.out.block _ (lt_of_blk hAn.out) (by simp)).trans hAn.out
        have hNx := (hkx.out.block _ (lt_of_blk hbN.out) (by simp)).trans hbN.out
        obtain ⟨i0, i1, i2, i3, i4, i5, i6, if', il⟩ := cl7 hAx
        obtain ⟨e0, e1', e2, e3, e4, e5, e6, e7, ef, el⟩ := cl8 hNx
        by_cases hltj : j < k
        · have hltj2 : (j : Int) < k := by omega
          have hjl : j < Y.length := by omega
          have hjx : (j : Int) < x6 := by omega
          obtain ⟨g', o', c'', z, hv2, hz, hez⟩ := hY.out.elem hjl
          rw [← e1.out] at hv2
          cases hv2
          have n0 := hz.m
          have n3 := hz.ep
          obtain ⟨z0, z1, z2, z3, z4, z5, z6, z7, z8, z9⟩ := z
          simp only at n0 n3
          have f0 := (hkG.out.trans hkx.out).val (hez 0 _ rfl)
          have f3 := (hkG.out.trans hkx.out).val (hez 3 _ rfl)
          simp only [Nat.add_zero] at f0 f3
          have hstep : (Y[j].m = a.m → Y[j].ep = a.ep) → ∀ l (hl : l < Y.length), l < j + 1 → Y[l].m = a.m → Y[l].ep = a.ep := fun hn l hl hlj => by
            by_cases e : l = j
            · subst e; exact hn
            · exact hep.out l hl (by omega)
          have hbad := hbE2.out j hjl
          rw [← n0, ← n3, ← m0.out, ← m3.out] at hstep hbad
          replace hstep := Lib.hid hstep
          replace hbad := Lib.hid hbad
          clear hez hz n0 n3
          by_cases a0 : z0 = y0
          · have b0 : (z0 == y0) = true := by simpa using a0
            by_cases a1 : z3 = y3
            · have b1 : (z3 != y3) = false := by simpa using a1
              have h2 := Lib.hid (hstep.out (fun _ => a1))
              replace a0 := Lib.hid a0
              replace a1 := Lib.hid a1
              rw [m0.out, m3.out] at h2
              go_wp2
              (refine wp_region_quiet_lit (by kernel_rfl) (by kernel_rfl) ?_; (repeat (first | go_big_quiet_step (fail) | quiet_step (fail))); with_reducible refine wpQuiet_nil ?_; intro _ hw'; obtain ⟨nq, hw''⟩ := hw'; subst hw'')
              go_wp2
              go_roundw
              case rel => exact ⟨j + 1, rfl, by omega, h2, Lib.hid (hkx.out.drewN _)⟩
              case measure => simp [intOf]; omega
            · have b1 : (z3 != y3) = true := by simpa using a1
              have hd := Lib.hid (hbad.out a0 a1)
              have hke := Lib.hid (hkG.out.trans hkx.out)
              replace a0 := Lib.hid a0
              replace a1 := Lib.hid a1
              go_wp2
              (refine wp_region_quiet_lit (by kernel_rfl) (by kernel_rfl) ?_; (repeat (first | go_big_quiet_step (fail) | quiet_step (fail))); with_reducible refine wpQuiet_nil ?_; intro _ hw'; obtain ⟨nq, hw''⟩ := hw'; subst hw'')
              go_wp2
              go_ret
              exact ⟨by rw [hd.out]; rfl, hke.out.drewN _⟩
          · have b0 : (z0 == y0) = false := by simpa using a0
            have h2 := Lib.hid (hstep.out (fun h => absurd h a0))
            replace a0 := Lib.hid a0
            rw [m0.out, m3.out] at h2
            go_wp2
            (refine wp_region_quiet_lit (by kernel_rfl) (by kernel_rfl) ?_; (repeat (first | go_big_quiet_step (fail) | quiet_step (fail))); with_reducible refine wpQuiet_nil ?_; intro _ hw'; obtain ⟨nq, hw''⟩ := hw'; subst hw'')
            go_wp2
            go_roundw
            case rel => exact ⟨j + 1, rfl, by omega, h2, Lib.hid (hkx.out.drewN _)⟩
            case measure => simp [intOf]; omega
        · have hltj2 : ¬ ((j : Int) < k) := by omega
          have hepk : Hid (∀ l (hl : l < Y.length), l < k → Y[l].m = a.m → Y[l].ep = a.ep) := Lib.hid (fun l hl hlk => hep.out l hl (by omega))
          have hkH := Lib.hid (hkn.out.trans hkx.out)
          have hkJ := Lib.hid (hkG.out.trans hkx.out)
          clear i0 i1 i2 i3 i4 i5 i6 if' il e0 e1' e2 e3 e4 e5 e6 e7 ef el
          replace hAx := Lib.hid hAx
          replace hNx := Lib.hid hNx
          go_wp2
          generalize wr = W3 at *
          go_loopw [6] (fun i wz => ∃ q : Nat, i = .int .i64 q ∧ q ≤ y8 ∧ Hid (∀ l (hl : l < a.ins.length), l < q → (outR Y (a.m, a.ins[l].1, a.ins[l].2.1)).getD 0 = a.ins[l].2.2) ∧ Hid (Keeps [] W3 wz)) (fun i _ => y8 - (intOf i).toNat)
          case atStart => exact ⟨0, rfl, by omega, Lib.hid (fun _ _ h => by omega), Lib.hid (Keeps.refl _ _)⟩
          case round =>
            obtain ⟨q, rfl, hq, hst, hkz⟩ := hrel
            have hAz := (hkz.out.block _ (lt_of_blk hAx.out) (by simp)).trans hAx.out
            have hNz := (hkz.out.block _ (lt_of_blk hNx.out) (by simp)).trans hNx.out
            obtain ⟨i0, i1, i2, i3, i4, i5, i6, if', il⟩ := cl7 hAz
            obtain ⟨e0, e1', e2, e3, e4, e5, e6, e7, ef, el⟩ := cl8 hNz
            have hkK := Lib.hid (hkJ.out.trans hkz.out)
            by_cases hltq : q < y8
            · have hltq2 : (q : Int) < y8 := by omega
              have hql : q < a.ins.length := by rw [← ev.out]; exact hltq
              obtain ⟨gi, oi, ci, hvi, hei⟩ := hins.out.elem hql
              rw [← ev.out] at hvi
              cases hvi
              have hbad := hbS2.out q hql
              have hstep : (outR Y (a.m, a.ins[q].1, a.ins[q].2.1)).getD 0 = a.ins[q].2.2 → ∀ l (hl : l < a.ins.length), l < q + 1 → (outR Y (a.m, a.ins[l].1, a.ins[l].2.1)).getD 0 = a.ins[l].2.2 := fun hn l hl hlj => by
                by_cases e : l = q
                · subst e; exact hn
                · exact hst.out l hl (by omega)
              obtain ⟨⟨n0, n1, n2⟩, hz⟩ : ∃ z, a.ins[q] = z := ⟨_, rfl⟩
              rw [hz] at hei hbad hstep
              simp only at hbad hstep
              have t0 := hkK.out.val (hei 0 _ rfl)
              have t1 := hkK.out.val (hei 1 _ rfl)
              have t2 := hkK.out.val (hei 2 _ rfl)
              have s2 := hei 2 _ rfl
              simp only [shT, Nat.add_zero] at t0 t1 t2 s2
              rw [← m0.out] at hbad hstep
              obtain ⟨rr, hrr⟩ : ∃ rr, outR Y (y0, n0, n1) = rr := ⟨_, rfl⟩
              have hcall := hof.out wr.drew (hkK.out.drew) y0 n0 n1
              rw [hrr] at hbad hstep hcall
              replace hrr := Lib.hid hrr
              replace hcall := Lib.hid hcall
              replace hz := Lib.hid hz
              replace hbad := Lib.hid hbad
              replace hstep := Lib.hid hstep
              replace s2 := Lib.hid s2
              clear hei
              go_upto_region 13 with fail
              refine Free.wp_region_chain (fun i => i == 15) (fun i => true) (fun _ _ => False) (by kernel_rfl) (by kernel_rfl) (by kernel_rfl) ?_
              (repeat (first | (apply Free.cw_pure rfl rfl; (intro w'; go_simp <;> exact rfl); go_frame) | (apply Free.cw_steady rfl rfl rfl; (intro w' hS; have q0 := Free.sx_cell hS i0 (fun _ _ hT => hT); have q1 := Free.sx_cell hS i1 (fun _ _ hT => hT); have q2 := Free.sx_cell hS i2 (fun _ _ hT => hT); have q3 := Free.sx_cell hS i3 (fun _ _ hT => hT); have q4 := Free.sx_cell hS i4 (fun _ _ hT => hT); have q5 := Free.sx_cell hS i5 (fun _ _ hT => hT); have q6 := Free.sx_cell hS i6 (fun _ _ hT => hT); have q7 := Free.sx_cell hS e0 (fun _ _ hT => hT); have q8 := Free.sx_cell hS e7 (fun _ _ hT => hT); have q9 := Free.sx_cell hS t0 (fun _ _ hT => hT); have q10 := Free.sx_cell hS t1 (fun _ _ hT => hT); go_simp <;> exact rfl); go_frame) | (refine Free.cw_skip rfl ?_; go_frame)))
              refine Free.cw_loud rfl rfl (fun K hK => ?_)
              go_wp2_with fail
              refine hcall.out.mono ?_
              rintro e w1 ⟨rfl, hk1⟩
              refine hK _ _ rfl (Free.KeepsP.of hk1 (by simp)) ?_
              clear hK K hcall
              have hk1d := ((Keeps.refl [] wr).drew).trans hk1
              have hk2 := Lib.hid (hkz.out.trans hk1d)
              have hA1 := (hk1d.block _ (lt_of_blk hAz) (by simp)).trans hAz
              have hN1 := (hk1d.block _ (lt_of_blk hNz) (by simp)).trans hNz
              have t2' := (hkK.out.trans hk1d).val s2.out
              have hk3 := Lib.hid (hkK.out.trans hk1d)
              clear hk1 hk1d
              (repeat (apply Free.cw_pure rfl rfl; (intro w'; go_simp <;> exact rfl); go_frame))
              refine Free.cw_nil ?_
              clear i0 i1 i2 i3 i4 i5 i6 if' il e0 e1' e2 e3 e4 e5 e6 e7 ef el t0 t1 t2
              obtain ⟨i0, i1, i2, i3, i4, i5, i6, if', il⟩ := cl7 hA1
              obtain ⟨e0, e1', e2, e3, e4, e5, e6, e7, ef, el⟩ := cl8 hN1
              obtain ⟨v0, hv0⟩ : ∃ v, rr.getD 0 = v := ⟨_, rfl⟩
              rw [hv0] at hbad hstep ⊢
              replace hv0 := Lib.hid hv0
              by_cases a0 : v0 = n2
              · have b0 : (v0 != n2) = false := by simpa using a0
                have h2 := hstep.out a0
                replace h2 := Lib.hid h2
                rw [m0.out] at h2
                replace a0 := Lib.hid a0
                go_wp2
                go_roundw
                case rel => exact ⟨q + 1, rfl, by omega, h2, hk2⟩
                case measure => simp [intOf]; omega
              · have b0 : (v0 != n2) = true := by simpa using a0
                have hd := Lib.hid (hbad.out a0)
                replace a0 := Lib.hid a0
                go_wp2
                go_ret
                exact ⟨by rw [hd.out]; rfl, hk3.out⟩
            · have hltq2 : ¬ ((q : Int) < y8) := by omega
              have hno2 : Hid (∀ i (hi : i < Y.length), i < k + 1 → (∀ k (hk : k < Y.length), k < i → Y[k].m = Y[i].m → Y[k].ep = Y[i].ep) ∧ ∀ q (hq : q < Y[i].ins.length), (outR Y (Y[i].m, Y[i].ins[q].1, Y[i].ins[q].2.1)).getD 0 = Y[i].ins[q].2.2) := Lib.hid (fun i hi hik => by
                by_cases e : i = k
                · subst e
                  rw [ha.out]
                  exact ⟨fun l hl hlk => hepk.out l hl hlk, fun l hl => hst.out l hl (by have := ev.out; omega)⟩
                · exact hno.out i hi (by omega))
              have hkL := Lib.hid (hkH.out.trans hkz.out)
              go_wp2
              go_roundw
              case rel => exact ⟨k + 1, rfl, by omega, hno2, hkL⟩
              case measure => simp [intOf]; omega
    · have hlt2 : ¬ ((k : Int) < x6) := by omega
      have hd := hgd.out (fun i hi => hno.out i hi (by have := e1.out; omega))
      replace hd := Lib.hid hd
      go_wp2
      go_ret
      exact ⟨by rw [hd.out]; rfl, hkF.out⟩
end Go.Proofs.Ytiplgpefapeapaa

namespace Go.Proofs.Ytiplgpefapeapaa
open Go.RowKit

theorem putZ_at (n : Int) : ∀ (l : List Int) (i : Nat), i ≤ l.length → (∀ j (hj : j < l.length), j < i → l[j] < n) → (∀ (hi : i < l.length), ¬ l[i] < n) → putZ n l = if ∃ hi : i < l.length, l[i] = n then l else l.take i ++ n :: l.drop i
  | [], i, hi, _, _ => by
    have : i = 0 := by simpa using hi
    subst this
    simp [putZ]
  | x :: r, 0, _, _, h2 => by
    have := h2 (by simp)
    simp only [List.getElem_cons_zero] at this
    unfold putZ
    rw [if_neg this]
    by_cases e : x = n
    · simp [e]
    · rw [if_neg e, if_neg (fun ⟨_, h⟩ => e (by simpa using h))]
      simp
  | x :: r, i + 1, hi, h1, h2 => by
    have h0 := h1 0 (by simp) (by omega)
    simp only [List.getElem_cons_zero] at h0
    unfold putZ
    rw [if_pos h0, putZ_at n r i (by simpa using hi) (fun j hj hji => by have := h1 (j + 1) (by simpa using hj) (by omega); simpa using this) (fun hi2 => by have := h2 (by simpa using hi2); simpa using this)]
    by_cases e : ∃ hi : i < r.length, r[i] = n
    · rw [if_pos e, if_pos (by obtain ⟨h3, h4⟩ := e; exact ⟨by simpa using h3, by simpa using h4⟩)]
    · rw [if_neg e, if_neg (fun ⟨h3, h4⟩ => e ⟨by simpa using h3, by simpa using h4⟩)]
      simp
theorem mR_succ (Y : List Ans) (k : Nat) (h : k < Y.length) : mR (Y.take (k + 1)) = putZ Y[k].m (mR (Y.take k)) := foldl_succ _ _ _ _ h
def MachPost (w : World) (Y : List Ans) (e : Ending) (w' : World) : Prop := ∃ v, e = .returned v ∧ shZ.R w' v (mR Y) ∧ (mR Y).length ≤ Y.length ∧ Keeps [] w w'
set_option maxRecDepth 100000 in
set_option maxHeartbeats 16000000 in
theorem machinesR_c (w : World) (x : CtV) (Y : List Ans) (h : RdA w (slv x.va) Y) (hl : Y.length ≤ 1000) :
    Calls Try.prog 23 #[ctV x] w fun e w' => MachPost w Y e w' := by
  obtain ⟨x0, x1, x2, x3, x4, ⟨x5, x6, x7⟩, ⟨x8, x9, x10⟩⟩ := x
  simp only [slv] at h
  obtain ⟨_, _, e1, hla, hca⟩ := h.form
  simp only [Value.slice.injEq] at e1
  obtain ⟨-, e1, -⟩ := e1
  have hx6m : x6 ≤ 1000 := by omega
  have hb0 := ((Keeps.refl [] (w.alloc (.cells #[.int .i64 x0, .int .i64 x1, .int .i64 x2, .int .u64 x3, .int .i64 x4, .slice x5 x6 x7, .slice x8 x9 x10] tCt))).alloc (.cells #[] 3)).block _ (by simp) (by simp) |>.trans (heap_alloc_new w (.cells #[.int .i64 x0, .int .i64 x1, .int .i64 x2, .int .u64 x3, .int .i64 x4, .slice x5 x6 x7, .slice x8 x9 x10] tCt))
  have hkA : Keeps [] w ((w.alloc (.cells #[.int .i64 x0, .int .i64 x1, .int .i64 x2, .int .u64 x3, .int .i64 x4, .slice x5 x6 x7, .slice x8 x9 x10] tCt)).alloc (.cells #[] 3)) := ((Keeps.refl _ _).alloc _).alloc _
  have hfr := (Sh.O.fresh shZ (w.alloc (.cells #[.int .i64 x0, .int .i64 x1, .int .i64 x2, .int .u64 x3, .int .i64 x4, .slice x5 x6 x7, .slice x8 x9 x10] tCt)) w.heap.size 3 (by simp)).r
  rw [show (w.alloc (.cells #[.int .i64 x0, .int .i64 x1, .int .i64 x2, .int .u64 x3, .int .i64 x4, .slice x5 x6 x7, .slice x8 x9 x10] tCt)).heap.size = w.heap.size + 1 by simp] at hfr
  replace h := Lib.hid h
  replace e1 := Lib.hid e1
  replace hb0 := Lib.hid hb0
  replace hkA := Lib.hid hkA
  replace hfr := Lib.hid hfr
  simp only [ctV, slv]
  go_enter Try.func23, Try.ntmps23
  go_wp2
  generalize ((w.alloc (.cells #[.int .i64 x0, .int .i64 x1, .int .i64 x2, .int .u64 x3, .int .i64 x4, .slice x5 x6 x7, .slice x8 x9 x10] tCt)).alloc (.cells #[] 3)) = W at *
  obtain ⟨B, hB⟩ : ∃ B, w.heap.size = B := ⟨_, rfl⟩
  rw [hB] at hb0 hfr ⊢
  replace hB := Lib.hid hB
  go_loopw [3, 4] (fun ov i wr => ∃ (k : Nat) (L : List Int), i = .int .i64 k ∧ k ≤ x6 ∧ Hid (shZ.R wr ov L) ∧ Hid (L = mR (Y.take k)) ∧ Hid (L.length ≤ k) ∧ Hid (Keeps [] W wr)) (fun _ i _ => x6 - (intOf i).toNat)
  case atStart => exact ⟨0, [], rfl, by omega, hfr, Lib.hid rfl, Lib.hid (by simp), Lib.hid (Keeps.refl _ _)⟩
  case round =>
    obtain ⟨k, L, rfl, hk, hR, hL, hLl, hkw⟩ := hrel
    have hAr := (hkw.out.block _ (lt_of_blk hb0.out) (by simp)).trans hb0.out
    obtain ⟨i0, i1, i2, i3, i4, i5, i6, if', il⟩ := cl7 hAr
    have hkF := Lib.hid (hkA.out.trans hkw.out)
    obtain ⟨oa, oc, hov, hoc1, hoc2, _⟩ := hR.out.form
    subst hov
    have hoc3 : oc ≤ 9223372036854775807 := by unfold maxLen at hoc2; omega
    by_cases hlt : k < x6
    · have hlt2 : (k : Int) < x6 := by omega
      have hkl : k < Y.length := by rw [← e1.out]; exact hlt
      have hsucc := mR_succ Y k hkl
      rw [← hL.out] at hsucc
      obtain ⟨g, o, c', y, hv, hy, he⟩ := h.out.elem hkl
      rw [← e1.out] at hv
      cases hv
      obtain ⟨a, ha⟩ : ∃ a, Y[k] = a := ⟨_, rfl⟩
      rw [ha] at hy hsucc
      have hm0 := hy.m
      obtain ⟨y0, y1, y2, y3, y4, y5, y6, y7, y8, y9⟩ := y
      simp only at hm0
      have g0 := hkF.out.val (he 0 _ rfl)
      simp only [AnV.v, Nat.add_zero] at g0
      rw [← hm0] at hsucc
      obtain ⟨M, hM⟩ : ∃ N, L.length = N := ⟨_, rfl⟩
      rw [hM] at hR hLl ⊢
      replace hM := Lib.hid hM
      replace ha := Lib.hid ha
      replace hm0 := Lib.hid hm0
      replace hsucc := Lib.hid hsucc
      clear he hy
      (go_upto_region 6 with fail; iterate 8 go_step)
      go_cut [6] from 9 to 60 (fun i wx => ∃ kk : Nat, i = .int .i64 kk ∧ kk ≤ M ∧ Hid (∀ j (hj : j < L.length), j < kk → L[j] < y0) ∧ Hid (∀ hj : kk < L.length, ¬ L[kk] < y0) ∧ Hid (Keeps [] wr wx))
      case first =>
        go_wp2
        generalize wr = WI at *
        go_loopw [6] (fun i wr => ∃ kk : Nat, i = .int .i64 kk ∧ kk ≤ M ∧ Hid (∀ j (hj : j < L.length), j < kk → L[j] < y0) ∧ Hid (Keeps [] WI wr)) (fun i _ => M - (intOf i).toNat)
        case atStart => exact ⟨0, rfl, by omega, Lib.hid (fun _ _ h => by omega), Lib.hid (Keeps.refl _ _)⟩
        case round =>
          obtain ⟨kk, rfl, hkk, hno, hkr⟩ := hrel
          by_cases hltk : kk < M
          · have hltk2 : (kk : Int) < M := by omega
            have hltk3 : decide ((kk : Int) < (M : Int)) = true := by simp; omega
            have hkl2 : kk < L.length := by rw [hM.out]; exact hltk
            obtain ⟨gp, op, cp, hvp, hep⟩ := (hR.out.keeps hkr.out).elem hkl2
            rw [hM.out] at hvp
            cases hvp
            obtain ⟨p0, hp⟩ : ∃ x, L[kk] = x := ⟨_, rfl⟩
            rw [hp] at hep
            have f0 := hep 0 _ rfl
            simp only [shZ, Nat.add_zero, Nat.mul_one] at f0
            have hyes : p0 < y0 → ∀ j (hj : j < L.length), j < kk + 1 → L[j] < y0 := fun hn j hj hjk => by
              by_cases e : j = kk
              · subst e; rw [hp]; exact hn
              · exact hno.out j hj (by omega)
            have hnot : ¬ p0 < y0 → ∀ hj : kk < L.length, ¬ L[kk] < y0 := fun hn hj => by rw [hp]; exact hn
            replace hyes := Lib.hid hyes
            replace hnot := Lib.hid hnot
            replace hp := Lib.hid hp
            clear hep
            by_cases a0 : p0 < y0
            · have b0 : decide (p0 < y0) = true := by simpa using a0
              have hy := Lib.hid (hyes.out a0)
              replace a0 := Lib.hid a0
              go_wp2
              go_roundw
              case rel => exact ⟨kk + 1, rfl, by omega, hy, hkr⟩
              case measure => simp [intOf]; omega
            · have b0 : decide (p0 < y0) = false := by simpa using a0
              have hy := Lib.hid (hnot.out a0)
              replace a0 := Lib.hid a0
              go_wp2
              go_meet
              case rel => exact ⟨kk, rfl, by omega, hno, hy, hkr⟩
          · have hy : Hid (∀ hj : kk < L.length, ¬ L[kk] < y0) := Lib.hid (fun hj => absurd hj (by rw [hM.out]; exact hltk))
            have hlt2 : decide ((kk : Int) < (M : Int)) = false := by simp; omega
            go_wp2
            go_meet
            case rel => exact ⟨kk, rfl, by omega, hno, hy, hkr⟩
      case rest =>
        obtain ⟨kk, rfl, hkk, hno, hst, hkr⟩ := hcut
        have hat := putZ_at y0 L kk (by rw [hM.out]; exact hkk) hno.out hst.out
        have hRc := Lib.hid (hR.out.keeps hkr.out)
        have hkc := Lib.hid (hkw.out.trans hkr.out)
        replace hat := Lib.hid hat
        clear i0 i1 i2 i3 i4 i5 i6 if' il g0
        go_upto_region 9 with fail
        go_cut [47] from 9 to 60 (fun b wx => b = .bool (decide (¬ ∃ hi : kk < L.length, L[kk] = y0)) ∧ wx = wc)
        case first =>
          by_cases hltk : kk < M
          · have hltk2 : (kk : Int) < M := by omega
            have hkl2 : kk < L.length := by rw [hM.out]; exact hltk
            have bk : ((kk : Int) == (M : Int)) = false := by simp; omega
            obtain ⟨gp, op, cp, hvp, hep⟩ := hRc.out.elem hkl2
            rw [hM.out] at hvp
            cases hvp
            obtain ⟨p0, hp⟩ : ∃ x, L[kk] = x := ⟨_, rfl⟩
            rw [hp] at hep
            have f0 := hep 0 _ rfl
            simp only [shZ, Nat.add_zero, Nat.mul_one] at f0
            have hdec : ∀ q : Bool, (q = true ↔ ¬ p0 = y0) → decide (¬ ∃ hi : kk < L.length, L[kk] = y0) = q := fun q hq => by
              rw [Bool.eq_iff_iff, decide_eq_true_iff, hq]
              exact not_congr ⟨fun ⟨_, h1⟩ => by rw [hp] at h1; exact h1, fun h1 => ⟨hkl2, by rw [hp]; exact h1⟩⟩
            replace hdec := Lib.hid hdec
            replace hp := Lib.hid hp
            clear hep
            by_cases a1 : p0 = y0
            · have b1 : (p0 != y0) = false := by simpa using a1
              have hd := Lib.hid (hdec.out false (by simp [a1]))
              replace a1 := Lib.hid a1
              go_wp2
              go_meet
              case rel => exact ⟨by rw [hd.out], rfl⟩
            · have b1 : (p0 != y0) = true := by simpa using a1
              have hd := Lib.hid (hdec.out true (by simp [a1]))
              replace a1 := Lib.hid a1
              go_wp2
              go_meet
              case rel => exact ⟨by rw [hd.out], rfl⟩
          · have hd : decide (¬ ∃ hi : kk < L.length, L[kk] = y0) = true := decide_eq_true (fun ⟨h1, _⟩ => by rw [hM.out] at h1; exact hltk h1)
            have bk : ((kk : Int) == (M : Int)) = true := by simp; omega
            replace hd := Lib.hid hd
            go_wp2
            go_meet
            case rel => exact ⟨by rw [hd.out], rfl⟩
        case rest =>
          obtain ⟨rfl, hwe⟩ := hcut
          subst hwe
          rename_i wz
          by_cases hfd : ∃ hi : kk < L.length, L[kk] = y0
          · have hres : Hid (L = mR (Y.take (k + 1))) := Lib.hid (by rw [hsucc.out, hat.out, if_pos hfd])
            rw [decide_eq_false (fun h => h hfd)]
            have hl5 : Hid (L.length ≤ k + 1) := Lib.hid (by have := hLl.out; have := hM.out; omega)
            replace hfd := Lib.hid hfd
            rw [← hM.out] at hRc ⊢
            go_wp2
            go_roundw
            case rel => exact ⟨k + 1, L, rfl, by omega, hRc, hres, hl5, hkc⟩
            case measure => simp [intOf]; omega
          · have hres : Hid (L.take kk ++ y0 :: L.drop kk = mR (Y.take (k + 1))) := Lib.hid (by rw [hsucc.out, hat.out, if_neg hfd])
            rw [decide_eq_true hfd]
            have hT1 := hRc.out.init' kk (by rw [hM.out]; exact hkk)
            have hT2 := hRc.out.tail' kk (by rw [hM.out]; exact hkk)
            rw [hM.out] at hT2
            replace hT2 : shZ.R wc (.slice (if oc = kk then oa else oa.map (·.add (kk * 1))) (M - kk) (oc - kk)) (L.drop kk) := hT2
            rw [Nat.mul_one] at hT2
            have hlt1 : (L.take kk).length = kk := by rw [List.length_take, hM.out]; omega
            have hlt2 : (L.drop kk).length = M - kk := by rw [List.length_drop, hM.out]
            have hMb : M ≤ 1000 := by have := hLl.out; omega
            have f1 : (0 : Int) ≤ (kk : Int) := by omega
            have f2 : (kk : Int) ≤ (oc : Int) := by have := hM.out; omega
            have f3 : (kk : Int) ≤ (M : Int) := by omega
            have hfrE := Sh.O.fresh shZ wc wc.heap.size 3 (Nat.le_refl _)
            have hkE := (Keeps.refl [] wc).alloc (.cells #[] 3)
            have hsE : wc.heap.size ≤ (wc.alloc (.cells #[] 3)).heap.size := by simp
            replace hT1 := Lib.hid hT1
            replace hT2 := Lib.hid hT2
            replace hlt1 := Lib.hid hlt1
            replace hlt2 := Lib.hid hlt2
            replace hfrE := Lib.hid hfrE
            replace hkE := Lib.hid hkE
            replace hfd := Lib.hid hfd
            go_upto_region 11 with (first
              | (at_builtin; (refine Sh.wpl_app shZ wc.heap.size infoZ rfl Try.underlying65 (.slice (some ⟨wc.heap.size, 0, none⟩) 0 0) (.slice oa kk oc) [] (L.take kk) rfl _ _ rfl rfl rfl hfrE.out (hT1.out.keeps hkE.out) (by simp only [List.length_nil, hlt1.out]; omega) hsE ?_; intro v1 w1 hO1 hG1; rw [List.nil_append] at hO1; have hk1 := Lib.hid (hG1.keeps (a := wc) hkE.out (fun b hb => by simp [Value.ownBlock] at hb; omega)); obtain ⟨la, lc, rfl⟩ := hO1.form; rw [hlt1.out] at hO1 ⊢; replace hO1 := Lib.hid hO1; clear hG1))
              | fail)
            refine Free.wp_region_chain (fun i => i == 2 || i == 3 || i == 7) (fun i => true) (fun _ b => wc.heap.size ≤ b) (by kernel_rfl) (by kernel_rfl) (by kernel_rfl) ?_
            (repeat (apply Free.cw_pure rfl rfl; (intro w'; go_simp <;> exact rfl); go_frame))
            refine Free.cw_loud rfl rfl (fun K hK => ?_)
            go_wp2
            refine hK _ _ rfl (Free.KeepsP.alloc _ _ _) ?_
            clear hK K
            have hmade := ((Sh.O.one shZ w1 y0 #[.int .i64 y0] 3 0 rfl (Nat.zero_le _)).r).keeps (Keeps.refl [] _).drew
            have hA9 : Keeps [] w1 (w1.alloc (.cells #[.int .i64 y0] 3)).drew := ((Keeps.refl _ _).alloc _).drew
            obtain ⟨bm, ebm⟩ : ∃ x, w1.heap.size = x := ⟨_, rfl⟩
            rw [ebm] at hmade ⊢
            generalize (w1.alloc (.cells #[.int .i64 y0] 3)).drew = w2 at *
            have hO2 := hO1.out.keeps hA9
            have hk2 := hk1.out.trans hA9
            replace hmade := Lib.hid hmade
            replace hO2 := Lib.hid hO2
            replace hk2 := Lib.hid hk2
            replace ebm := Lib.hid ebm
            clear hA9 hk1 hO1
            (repeat (apply Free.cw_pure rfl rfl; (intro w'; go_simp <;> exact rfl); go_frame))
            refine Free.cw_loud rfl rfl (fun K hK => ?_)
            refine Sh.owp_app shZ wc.heap.size infoZ rfl Try.underlying65 (.slice la kk lc) (.slice (some ⟨bm, 0, none⟩) 1 1) (L.take kk) [y0] (.tmp 53) (.tmp 55) rfl rfl rfl hO2.out hmade.out (by rw [hlt1.out]; simp; omega) hk2.out.size ?_
            intro v5 w5 hO5 hG5
            refine hK _ _ rfl (Free.KeepsP.of hG5.keepsO (fun b hb => hO2.out.ge b (by simpa using hb))) ?_
            clear hK K
            have hk5w := Lib.hid (hk2.out.fresh hG5.keepsO (fun b hb => .inr (hO2.out.ge b (by simpa using hb))))
            have hlen5 : (L.take kk ++ [y0]).length = kk + 1 := by rw [List.length_append, hlt1.out]; rfl
            replace hO5 := Lib.hid hO5
            obtain ⟨a5, c5, rfl⟩ := hO5.out.form
            rw [hlen5] at hO5 ⊢
            replace hlen5 := Lib.hid hlen5
            clear hG5 hmade hO2 hk2
            (repeat (apply Free.cw_pure rfl rfl; (intro w'; go_simp <;> exact rfl); go_frame))
            refine Free.cw_loud rfl rfl (fun K hK => ?_)
            refine Sh.owp_app shZ wc.heap.size infoZ rfl Try.underlying65 (.slice a5 (kk + 1) c5) (.slice (if oc = kk then oa else oa.map (·.add kk)) (M - kk) (oc - kk)) (L.take kk ++ [y0]) (L.drop kk) (.tmp 56) (.tmp 59) rfl rfl rfl hO5.out (hT2.out.keeps hk5w.out) (by rw [hlen5.out, hlt2.out]; omega) hk5w.out.size ?_
            intro v6 w6 hO6 hG6
            refine hK _ _ rfl (Free.KeepsP.of hG6.keepsO (fun b hb => hO5.out.ge b (by simpa using hb))) ?_
            clear hK K
            have hk6w := Lib.hid (hk5w.out.fresh hG6.keepsO (fun b hb => .inr (hO5.out.ge b (by simpa using hb))))
            rw [List.append_assoc, List.singleton_append, hres.out] at hO6
            have hR6 := Lib.hid hO6.r
            have hl6 : Hid ((mR (Y.take (k + 1))).length ≤ k + 1) := Lib.hid (by rw [← hres.out]; simp only [List.length_append, List.length_cons, hlt1.out, hlt2.out]; have := hLl.out; omega)
            have hk7 := Lib.hid (hkc.out.trans hk6w.out)
            clear hG6 hO6
            (repeat (apply Free.cw_pure rfl rfl; (intro w'; go_simp <;> exact rfl); go_frame))
            refine Free.cw_nil ?_
            go_wp2
            go_roundw
            case rel => exact ⟨k + 1, _, rfl, by omega, hR6, Lib.hid rfl, hl6, hk7⟩
            case measure => simp [intOf]; omega
    · have hlt2 : ¬ ((k : Int) < x6) := by omega
      have hkY : k = Y.length := by have := e1.out; omega
      have hLe : Hid (L = mR Y) := Lib.hid (by rw [hL.out, hkY, List.take_length])
      have hLm : Hid (L.length ≤ Y.length) := Lib.hid (by have := hLl.out; omega)
      replace hkY := Lib.hid hkY
      go_wp2
      go_ret
      exact ⟨_, rfl, by rw [← hLe.out]; exact hR.out, by rw [← hLe.out]; exact hLm.out, hkF.out⟩
end Go.Proofs.Ytiplgpefapeapaa
