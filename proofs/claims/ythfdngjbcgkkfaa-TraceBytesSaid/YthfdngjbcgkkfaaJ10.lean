/- Texts that the laws lean on, in the order in which they build. The history of a trace that gathers holds the recorded answers: kept by the operations. The law's operations: their cells, what they do (plain). What holds of a trace after n operations (plain). What Decode gives: plain. What holds of the trace that Decode plays again (plain). The memory of Decode: the reader, and the trace beside it. trace.Decode. (Printed by mktrdec.py.) The example of the chapter, in plain Lean. StateName. The example of the chapter holds. -/
import Derived.Test.YthfdngjbcgkkfaaJ9
set_option linter.unusedVariables false
set_option linter.unusedSimpArgs false
namespace Go.Proofs.Ythfdngjbcgkkfaa
open Go.RowKit

theorem Tr.put_rec {t : Tr} {a : Ans} (hn : t.op.Nodup) (ho : isOpen a.q t.qs = true) (b : Ans) : (∃ p ∈ ((t.take a).put a).rec', p.2 = b) ↔ b = a ∨ ∃ p ∈ t.rec', p.2 = b := by
  have hm := isOpen_mem.1 ho
  have hq : a.q ∈ t.qs.map (·.1) := List.mem_map.2 ⟨_, hm, rfl⟩
  have hr : ((t.take a).put a).rec' = recOf (setQ a.q a t.qs) := fold_rec _ _ _
  rw [hr]
  constructor
  · rintro ⟨⟨k, c⟩, hp, rfl⟩
    rcases (setQ_mem hq k (some c)).1 (recOf_keys.1 hp) with ⟨_, e⟩ | ⟨_, e⟩
    · exact .inl (Option.some.inj e)
    · exact .inr ⟨(k, c), recOf_keys.2 e, rfl⟩
  · rintro (rfl | ⟨⟨k, c⟩, hp, rfl⟩)
    · exact ⟨(b.q, b), recOf_keys.2 ((setQ_mem hq _ _).2 (.inl ⟨rfl, rfl⟩)), rfl⟩
    · refine ⟨(k, c), recOf_keys.2 ((setQ_mem hq _ _).2 ?_), rfl⟩
      have hp2 : (k, some c) ∈ t.qs := recOf_keys.1 hp
      by_cases e : k = a.q
      · subst e
        have := nd_val hn hm hp2
        cases this
      · exact .inr ⟨e, hp2⟩
theorem Tr.HistOk.new (im is : Int) (st : T3) : (Tr.new im is st).HistOk := fun _ b => by simp [Tr.new, Tr.rec', recOf]
theorem Tr.close_hist (t : Tr) : t.close.hist = t.hist ∧ t.close.rec' = t.rec' ∧ (t.close.state = 0 → t.state = 0) := by
  unfold Tr.close
  split
  · exact ⟨rfl, rfl, fun h => by simp at h⟩
  · exact ⟨rfl, rfl, id⟩
theorem Tr.HistOk.answer {t : Tr} {a : Ans} (h : t.HistOk) (hi : t.Inv) : (t.answer a).1.HistOk := by
  unfold Tr.answer
  split
  · exact h
  split
  · exact h
  split
  · exact fun hs => by simp at hs
  split
  · exact fun hs => by simp at hs
  split
  · exact fun hs => by simp at hs
  rename_i h0 ho _ _ _
  intro _ b
  obtain ⟨e1, e2, _⟩ := Tr.close_hist ((t.take a).put a)
  simp only [e1, e2]
  have ho2 : isOpen a.q t.qs = true := by simpa using ho
  rw [Tr.put_rec hi.nd ho2, ← h (by simpa using h0) b]
  show b ∈ t.hist ++ [a] ↔ _
  simp [or_comm]
theorem Tr.HistOk.refuse {t : Tr} (h : t.HistOk) (m : Int) : (t.refuseT m).1.HistOk := by
  unfold Tr.refuseT
  split
  · exact h
  split
  · split
    · exact h
    · exact fun hs => by simp at hs
  · exact h
theorem Tr.HistOk.agree {t : Tr} (h : t.HistOk) (m : Int) : (t.agreeT m).1.HistOk := by
  unfold Tr.agreeT
  split
  · exact h
  rename_i h1
  split
  · split
    · exact h
    · intro hs
      simp only at hs
      split at hs
      · cases hs
      · have : t.state = 1 := by simpa using h1
        omega
  · exact h
theorem Tr.mid_zero {t : Tr} {a : Ans} (hn : t.op.Nodup) {k : Nat} (hk : k < t.qs.length) (e : t.qs[k].1 = a.q) : (t.mid a 0).qs = t.qs.set k (a.q, some a) ∧ (t.mid a 0).op = t.op := by
  have h1 : (t.mid a 0).qs = setQ a.q a t.qs := by unfold Tr.mid; simp
  refine ⟨by rw [h1, setQ_set hn k hk e], ?_⟩
  unfold Tr.op
  rw [h1, setQ_keys]
theorem Tr.mid_take (t : Tr) (a : Ans) (i : Nat) : (t.mid a i).hist = t.hist ++ [a] ∧ (t.mid a i).state = t.state ∧ (t.mid a i).im = t.im ∧ (t.mid a i).is = t.is ∧ (t.mid a i).st = t.st ∧ (t.mid a i).told = t.told ∧ (t.mid a i).ag = t.ag ∧ (t.mid a i).rf = t.rf := ⟨rfl, rfl, rfl, rfl, rfl, rfl, rfl, rfl⟩
theorem Tr.mid_rk {t : Tr} {a : Ans} (hi : t.Inv) (ho : isOpen a.q t.qs = true) (hk : a.kn = true) (i : Nat) : ∀ p ∈ (t.mid a i).rec', p.2.kn = true := by
  intro p hp
  have hr : (t.mid a i).rec' = recOf (setQ a.q a t.qs) := fold_rec _ _ _
  rw [hr] at hp
  obtain ⟨q, b⟩ := p
  have hm := isOpen_mem.1 ho
  rcases (setQ_mem (List.mem_map.2 ⟨_, hm, rfl⟩) q (some b)).1 (recOf_keys.1 hp) with ⟨_, e⟩ | ⟨_, e⟩
  · rw [Option.some.inj e]; exact hk
  · exact hi.rk (q, b) (recOf_keys.2 e)
end Go.Proofs.Ythfdngjbcgkkfaa

namespace Go.Proofs.Ythfdngjbcgkkfaa
open Go.ChangeShapes Go.WideShapes Go.ChangeAt Go.RowKit

abbrev tOp : Nat := 59
structure Op3 where
  k : Nat
  i : Int
  near : Bool
  a : Ans
structure Op3.Fit (o : Op3) : Prop where
  k : o.k < 256
  i : W64 o.i
  a : o.a.Fit
/-- The cells of an operation. -/
def OpC (w : World) (cs : List Value) (o : Op3) : Prop := ∃ x : AnV, cs = .int .u8 o.k :: .int .i64 o.i :: .bool o.near :: x.cs ∧ InR w x o.a ∧ o.Fit
theorem OpC.keeps {w w' : World} {cs : List Value} {o : Op3} (h : OpC w cs o) (hk : Keeps [] w w') : OpC w' cs o := by
  obtain ⟨x, h1, h2, h3⟩ := h
  exact ⟨x, h1, h2.keep hk (by simp), h3⟩
/-- A list of operations that is read. -/
def LO (w : World) (v : Value) (L : List Op3) : Prop := Gen.SlR OpC 11 w v L
theorem LO.keeps {w w' : World} {v : Value} {L : List Op3} (h : LO w v L) (hk : Keeps [] w w') : LO w' v L := Gen.SlR.keeps h hk (fun _ _ h => h.keeps hk)
theorem LO.elem {w : World} {v : Value} {L : List Op3} (h : LO w v L) {k : Nat} (hk : k < L.length) : ∃ g o c x, v = .slice (some ⟨g, o, none⟩) L.length c ∧ InR w x L[k].a ∧ L[k].Fit ∧
    w.cell? ⟨g, o + k * 11, none⟩ = some (.int .u8 L[k].k) ∧ w.cell? ⟨g, o + k * 11 + 1, none⟩ = some (.int .i64 L[k].i) ∧ w.cell? ⟨g, o + k * 11 + 2, none⟩ = some (.bool L[k].near) ∧ w.cell? ⟨g, o + k * 11 + 3, none⟩ = some (.int .i64 x.m) ∧ w.cell? ⟨g, o + k * 11 + 4, none⟩ = some (.int .i64 x.ow) ∧
    w.cell? ⟨g, o + k * 11 + 5, none⟩ = some (.int .u64 x.n) ∧ w.cell? ⟨g, o + k * 11 + 6, none⟩ = some (.int .i64 x.ep) ∧ w.cell? ⟨g, o + k * 11 + 7, none⟩ = some (.bool x.kn) ∧ w.cell? ⟨g, o + k * 11 + 8, none⟩ = some (.bool x.rt) ∧ w.cell? ⟨g, o + k * 11 + 9, none⟩ = some (.int .i64 x.lu) ∧ w.cell? ⟨g, o + k * 11 + 10, none⟩ = some x.v := by
  obtain ⟨g, o, c, xs, h1, h2, ⟨x, e, h3, h4⟩, h5⟩ := Gen.SlR.elem h (by decide) hk
  subst e
  exact ⟨g, o, c, x, h1, h3, h4, h5 0 _ rfl, h5 1 _ rfl, h5 2 _ rfl, h5 3 _ rfl, h5 4 _ rfl, h5 5 _ rfl, h5 6 _ rfl, h5 7 _ rfl, h5 8 _ rfl, h5 9 _ rfl, h5 10 _ rfl⟩
set_option maxRecDepth 100000 in
set_option maxHeartbeats 1000000 in
theorem cs_op {w : World} {cs : List Value} (h : Gen.Cs Try.prog w tOp cs) : ∃ o, OpC w cs o := by
  obtain ⟨hl, hall⟩ := Gen.Cs.struct Try.underlying59 h
  rw [show Try.prog.cellsOf tOp = 11 by kernel_rfl] at hl
  obtain ⟨a, b, c, d, e, f, g, i, j, k, l, rfl⟩ : ∃ a b c d e f g i j k l, cs = [a, b, c, d, e, f, g, i, j, k, l] := by
    match cs, hl with
    | [a, b, c, d, e, f, g, i, j, k, l], _ => exact ⟨a, b, c, d, e, f, g, i, j, k, l, rfl⟩
  have h0 := hall 0 _ rfl
  have h1 := hall 1 _ rfl
  have h2 := hall 2 _ rfl
  have h3 := hall 3 _ rfl
  replace h0 : Gen.Cs Try.prog w 5 (([a, b, c, d, e, f, g, i, j, k, l].drop 0).take (Try.prog.cellsOf 5)) := h0
  replace h1 : Gen.Cs Try.prog w 3 (([a, b, c, d, e, f, g, i, j, k, l].drop 1).take (Try.prog.cellsOf 3)) := h1
  replace h2 : Gen.Cs Try.prog w 4 (([a, b, c, d, e, f, g, i, j, k, l].drop 2).take (Try.prog.cellsOf 4)) := h2
  replace h3 : Gen.Cs Try.prog w tA (([a, b, c, d, e, f, g, i, j, k, l].drop 3).take (Try.prog.cellsOf tA)) := h3
  rw [show Try.prog.cellsOf 5 = 1 by kernel_rfl] at h0
  rw [show Try.prog.cellsOf 3 = 1 by kernel_rfl] at h1
  rw [show Try.prog.cellsOf 4 = 1 by kernel_rfl] at h2
  rw [show Try.prog.cellsOf tA = 8 by kernel_rfl] at h3
  obtain ⟨z0, e0, w0⟩ := Gen.Cs.int Try.underlying5 h0
  obtain ⟨z1, e1, w1⟩ := Gen.Cs.int Try.underlying3 h1
  obtain ⟨z2, e2⟩ := Gen.Cs.bool Try.underlying4 h2
  obtain ⟨y, x, hx, hI, hF⟩ := cs_ans h3
  have hb : 0 ≤ z0 ∧ z0 ≤ 255 := by simpa [Lit.wf, IntKind.min, IntKind.max, IntKind.signed, IntKind.bits] using w0
  obtain ⟨n0, rfl⟩ : ∃ n : Nat, z0 = n := ⟨z0.toNat, by omega⟩
  simp at e0 e1 e2 hx
  subst e0 e1 e2
  exact ⟨⟨n0, z1, z2, y⟩, x, by rw [← hx], hI, ⟨by show n0 < 256; omega, w64_wf w1, hF⟩⟩
set_option maxRecDepth 100000 in
set_option maxHeartbeats 1000000 in
theorem open_ops {H : Type} {enc : TypeId × Value → H} {W : World} {base : Nat} {r : Reach} {v : Value} {d : DataW H} {ps : List MemPlace} (hv : Value.okWide Try.prog W r base 51 v)
    (h : DataW.Trod enc Try.prog W 0 (fun _ => true) true 51 v d ps) : ∃ L : List Op3, LO W v L := by
  obtain ⟨a0, n0, c0, rfl⟩ := okWide_slice Try.underlying51 hv
  obtain ⟨L, hL, _⟩ := Gen.SlR.open (R := OpC) Try.underlying51 (show Try.prog.cellsOf tOp = 11 by kernel_rfl) (by decide) (fun cs hcs => cs_op hcs) (Gen.Cs.of_trod rfl h)
  exact ⟨L, hL⟩
/-- The questions without an answer. -/
def opens (qs : Qs) : List Qn := (qs.filter (fun p => !p.2.isSome)).map (·.1)
theorem opens_snoc (qs : Qs) (p : Qn × Option Ans) : opens (qs ++ [p]) = opens qs ++ if p.2.isSome then [] else [p.1] := by
  unfold opens
  rw [List.filter_append, List.map_append]
  obtain ⟨q, u⟩ := p
  cases u <;> simp
theorem opens_len (qs : Qs) : (opens qs).length ≤ qs.length := by unfold opens; rw [List.length_map]; exact List.length_filter_le _ _
theorem opens_mem {qs : Qs} {q : Qn} (h : q ∈ opens qs) : q ∈ qs.map (·.1) := by
  unfold opens at h
  obtain ⟨p, hp, rfl⟩ := List.mem_map.1 h
  exact List.mem_map.2 ⟨p, (List.mem_filter.1 hp).1, rfl⟩
/-- The chosen one. -/
def pick (i : Int) (n : Nat) : Nat := (Int.tmod (Int.tmod i n + n) n).toNat
theorem pick_lt {i : Int} {n : Nat} (h : 0 < n) : pick i n < n ∧ (pick i n : Int) = Int.tmod (Int.tmod i n + n) n ∧ 0 ≤ Int.tmod i n + n ∧ Int.tmod i n + n ≤ 2 * n := by
  have h1 := Int.tmod_lt_of_pos i (show (0 : Int) < n by omega)
  have h2 := Int.lt_tmod_of_pos i (show (0 : Int) < n by omega)
  have h3 := Int.tmod_lt_of_pos (Int.tmod i n + n) (show (0 : Int) < n by omega)
  have h4 := Int.tmod_nonneg (a := Int.tmod i n + n) (n : Int) (by omega)
  unfold pick
  omega
def Op3.aim (o : Op3) (qs : Qs) : Ans := if o.k ≤ 1 ∧ 0 < (opens qs).length then (match (opens qs)[pick o.i (opens qs).length]? with | some q => { o.a with m := q.1, ow := q.2.1, n := q.2.2 } | none => o.a) else o.a
theorem aim_in {o : Op3} {qs : Qs} (h1 : o.k ≤ 1) (h2 : 0 < (opens qs).length) : o.aim qs = { o.a with m := ((opens qs)[pick o.i (opens qs).length]'(pick_lt h2).1).1, ow := ((opens qs)[pick o.i (opens qs).length]'(pick_lt h2).1).2.1, n := ((opens qs)[pick o.i (opens qs).length]'(pick_lt h2).1).2.2 } := by
  unfold Op3.aim
  rw [if_pos ⟨h1, h2⟩, List.getElem?_eq_getElem (pick_lt h2).1]
theorem aim_out {o : Op3} {qs : Qs} (h : ¬ (o.k ≤ 1 ∧ 0 < (opens qs).length)) : o.aim qs = o.a := by unfold Op3.aim; rw [if_neg h]
theorem aim_ins (o : Op3) (qs : Qs) : (o.aim qs).ins = o.a.ins := by
  unfold Op3.aim
  split
  · split <;> rfl
  · rfl
/-- The machine that a reply is for. -/
def Op3.mach (o : Op3) (t : Tr) : Int := if o.near = true ∧ t.state = 1 then (match t.clm[t.ag.length]? with | some p => p.m | none => o.i) else o.i
def Op3.step (o : Op3) (t : Tr) : Tr :=
  if o.k ≤ 3 then (t.answer (o.aim t.qs)).1 else if o.k = 4 then t.queries.1 else if o.k = 5 then (t.agreeT (o.mach t)).1 else if o.k = 6 then (t.refuseT (o.mach t)).1 else t
end Go.Proofs.Ythfdngjbcgkkfaa

namespace Go.Proofs.Ythfdngjbcgkkfaa
open Go.RowKit

/-- A trace after n operations of at most five entries each. -/
structure Tr.Bnd (t : Tr) (n : Nat) : Prop where
  ho : t.HistOk
  qs : t.qs.length ≤ 1 + 5 * n
  ne : t.qs ≠ []
  hl : t.hist.length ≤ n
  hi : ∀ a ∈ t.hist, a.ins.length ≤ 5
  ag : t.ag.length ≤ n
  tl : ∃ tn : Nat, t.told = tn ∧ tn ≤ t.qs.length
  s1 : t.state = 1 → t.ag.length < t.clm.length
  s0 : t.state = 0 → t.ag = []
  rf : t.rf = true → t.state = 4
theorem Tr.clm_qs {t u : Tr} (h : u.qs = t.qs) : u.clm = t.clm := by
  cases t; cases u
  simp only at h
  subst h
  rfl
theorem Tr.clm_pos {t : Tr} (h : t.Inv) (hn : t.rec' ≠ []) : 0 < t.clm.length := by
  have hs := srtOf_sorted h
  have hp : ClaimsP t (srtOf t.qs) t.clm := refOf_claims hs.2
  obtain ⟨h1, _⟩ := ClaimsP.at' hs.2 hp
  rw [h1]
  obtain ⟨_, _, h3⟩ := rawOf_eq t (outsOf (srtOf t.qs)) (srtOf t.qs) hs.2
  obtain ⟨p, hpm⟩ := List.exists_mem_of_ne_nil _ hn
  have hm : p.2 ∈ srtOf t.qs := hs.1.mem_iff.2 (List.mem_map.2 ⟨p, hpm, rfl⟩)
  have := (h3 p.2.m).2 ⟨p.2, hm, rfl⟩
  exact List.length_pos_of_mem this
theorem Tr.Bnd.new (im is : Int) (st : T3) : (Tr.new im is st).Bnd 0 :=
  ⟨Tr.HistOk.new im is st, by simp [Tr.new], by simp [Tr.new], by simp [Tr.new], by simp [Tr.new], by simp [Tr.new], ⟨0, rfl, by simp [Tr.new]⟩, by simp [Tr.new], by simp [Tr.new], by simp [Tr.new]⟩
theorem Tr.Bnd.mono {t : Tr} {n m : Nat} (h : t.Bnd n) (hm : n ≤ m) : t.Bnd m := ⟨h.ho, by have := h.qs; omega, h.ne, by have := h.hl; omega, h.hi, by have := h.ag; omega, h.tl, h.s1, h.s0, h.rf⟩
theorem setQ_length (q : Qn) (a : Ans) (qs : Qs) : (setQ q a qs).length = qs.length := by unfold setQ; simp
theorem fold_ge (m : Int) : ∀ (l : List T3) (qs : Qs), qs.length ≤ (l.foldl (openQ m) qs).length
  | [], _ => Nat.le_refl _
  | x :: l, qs => Nat.le_trans (by unfold openQ; split <;> simp) (fold_ge m l (openQ m qs x))
theorem Tr.Bnd.answer {t : Tr} {n : Nat} {a : Ans} (h : t.Bnd n) (hi : t.Inv) (hi' : (t.answer a).1.Inv) (ha : a.ins.length ≤ 5) : (t.answer a).1.Bnd (n + 1) := by
  have hho := h.ho.answer (a := a) hi
  have hist : ∀ b ∈ t.hist ++ [a], b.ins.length ≤ 5 := fun b hb => by
    rcases List.mem_append.1 hb with hb | hb
    · exact h.hi b hb
    · rw [List.mem_singleton.1 hb]; exact ha
  have hl : (t.hist ++ [a]).length ≤ n + 1 := by have := h.hl; simp; omega
  have hg : t.ag.length ≤ n + 1 := by have := h.ag; omega
  have hq : t.qs.length ≤ 1 + 5 * (n + 1) := by have := h.qs; omega
  revert hho hi'
  unfold Tr.answer
  split
  · exact fun _ _ => h.mono (by omega)
  rename_i h0
  have h0 : t.state = 0 := by simpa using h0
  have hrf : t.rf = false := by
    cases e : t.rf with
    | false => rfl
    | true => have := h.rf e; omega
  split
  · exact fun _ _ => h.mono (by omega)
  split
  · exact fun _ hho => ⟨hho, hq, h.ne, hl, hist, hg, h.tl, by simp, by simp, fun _ => rfl⟩
  split
  · exact fun _ hho => ⟨hho, hq, h.ne, hl, hist, hg, h.tl, by simp, by simp, fun e => by simp [Tr.take, hrf] at e⟩
  split
  · exact fun _ hho => ⟨hho, hq, h.ne, hl, hist, hg, h.tl, by simp, by simp, fun _ => rfl⟩
  intro hi' hho
  obtain ⟨tn, e1, e2⟩ := h.tl
  have hlen : ((t.take a).put a).qs.length ≤ 1 + 5 * (n + 1) := by
    have := fold_len a.m a.ins (setQ a.q a t.qs)
    rw [setQ_length] at this
    have h2 := h.qs
    show (a.ins.foldl (openQ a.m) (setQ a.q a t.qs)).length ≤ _
    omega
  have hge : t.qs.length ≤ ((t.take a).put a).qs.length := by
    have := fold_ge a.m a.ins (setQ a.q a t.qs)
    rw [setQ_length] at this
    exact this
  have hpos : 0 < t.qs.length := List.length_pos_iff.2 h.ne
  have hne : ((t.take a).put a).qs ≠ [] := List.length_pos_iff.1 (by omega)
  unfold Tr.close at hho hi' ⊢
  by_cases hall : allQ ((t.take a).put a).qs = true
  · simp only [hall, if_true] at hho hi' ⊢
    refine ⟨hho, hlen, hne, hl, hist, hg, ⟨tn, e1, by simp only; omega⟩, fun _ => ?_, by simp, fun e => by simp [Tr.take, Tr.put, hrf] at e⟩
    have hag : ((t.take a).put a).ag = [] := h.s0 h0
    have hcp := Tr.clm_pos hi' (fun e => by
      have := (rec_len ((t.take a).put a).qs).2.2 hall
      have e' : recOf ((t.take a).put a).qs = [] := e
      rw [e'] at this
      simp at this
      omega)
    show ((t.take a).put a).ag.length < _
    rw [hag]
    exact hcp
  · simp only [hall] at hho hi' ⊢
    exact ⟨hho, hlen, hne, hl, hist, hg, ⟨tn, e1, by simp only [Bool.false_eq_true, if_false]; omega⟩, fun e => by simp [Tr.take, Tr.put, h0] at e, fun _ => h.s0 h0, fun e => by simp [Tr.take, Tr.put, hrf] at e⟩
theorem Tr.Bnd.queries {t : Tr} {n : Nat} (h : t.Bnd n) : t.queries.1.Bnd (n + 1) := by
  unfold Tr.queries
  split
  · exact h.mono (by omega)
  · exact ⟨h.ho, by have := h.qs; simp only; omega, h.ne, by have := h.hl; simp only; omega, h.hi, by have := h.ag; simp only; omega, ⟨t.qs.length, rfl, Nat.le_refl _⟩, h.s1, h.s0, h.rf⟩
theorem Tr.Bnd.agree {t : Tr} {n : Nat} (h : t.Bnd n) (m : Int) : (t.agreeT m).1.Bnd (n + 1) := by
  have hho := h.ho.agree m
  revert hho
  unfold Tr.agreeT
  split
  · exact fun _ => h.mono (by omega)
  rename_i h1
  have h1 : t.state = 1 := by simpa using h1
  have hlt := h.s1 h1
  split
  · split
    · exact fun _ => h.mono (by omega)
    · intro hho
      refine ⟨hho, by have := h.qs; simp only; omega, h.ne, by have := h.hl; simp only; omega, h.hi, by have := h.ag; simp; omega, h.tl, fun e => ?_, fun e => ?_, fun e => ?_⟩
      · simp only at e
        split at e
        · omega
        · rename_i hne
          have e2 := @Tr.clm_qs t { t with ag := t.ag ++ [m], state := if t.ag.length + 1 = t.clm.length then 2 else t.state } rfl
          rw [e2]
          simp only [List.length_append, List.length_cons, List.length_nil]
          omega
      · simp only at e
        split at e <;> omega
      · have := h.rf e
        omega
  · exact fun _ => h.mono (by omega)
theorem Tr.Bnd.refuse {t : Tr} {n : Nat} (h : t.Bnd n) (m : Int) : (t.refuseT m).1.Bnd (n + 1) := by
  have hho := h.ho.refuse m
  revert hho
  unfold Tr.refuseT
  split
  · exact fun _ => h.mono (by omega)
  split
  · split
    · exact fun _ => h.mono (by omega)
    · intro hho
      exact ⟨hho, by have := h.qs; simp only; omega, h.ne, by have := h.hl; simp only; omega, h.hi, by have := h.ag; simp only; omega, h.tl, by simp, by simp, fun _ => rfl⟩
  · exact fun _ => h.mono (by omega)
/-- The aimed answer fits. -/
theorem aim_fit {o : Op3} {t : Tr} (h : o.Fit) (hi : t.Inv) : (o.aim t.qs).Fit := by
  by_cases hc : o.k ≤ 1 ∧ 0 < (opens t.qs).length
  · rw [aim_in hc.1 hc.2]
    have hm := opens_mem (List.getElem_mem (pick_lt (i := o.i) hc.2).1)
    have hq := hi.ok _ hm
    exact ⟨hq, h.a.ep, h.a.lu, h.a.ins⟩
  · rw [aim_out hc]; exact h.a
theorem Op3.step_bnd {o : Op3} {t : Tr} {n : Nat} (h : t.Bnd n) (hi : t.Inv) (hi' : (o.step t).Inv) (ha : o.a.ins.length ≤ 5) : (o.step t).Bnd (n + 1) := by
  revert hi'
  unfold Op3.step
  split
  · exact fun hi' => h.answer hi hi' (by rw [aim_ins]; exact ha)
  split
  · exact fun _ => h.queries
  split
  · exact fun _ => h.agree _
  split
  · exact fun _ => h.refuse _
  · exact fun _ => h.mono (by omega)
/-- A run of operations. -/
def runT (L : List Op3) (t : Tr) : Tr := L.foldl (fun t o => o.step t) t
theorem runT_snoc (L : List Op3) (o : Op3) (t : Tr) : runT (L ++ [o]) t = o.step (runT L t) := by unfold runT; rw [List.foldl_append]; rfl
theorem runT_take (L : List Op3) (t : Tr) (k : Nat) (hk : k < L.length) : runT (L.take (k + 1)) t = L[k].step (runT (L.take k) t) := by
  rw [List.take_succ_eq_append_getElem hk, runT_snoc]
end Go.Proofs.Ythfdngjbcgkkfaa

namespace Go.Proofs.Ythfdngjbcgkkfaa
open Go.RowKit

/-- An inset, an answer, as the reader reads them. -/
def rX (s : RS) : T3 × RS := (((rI s).1, (rU (rI s).2).1, (rI (rU (rI s).2).2).1), (rI (rU (rI s).2).2).2)
def rXs : Nat → RS → List T3 → List T3 × RS
  | 0, s, L => (L, s)
  | n + 1, s, L => rXs n (rX s).2 (L ++ [(rX s).1])
theorem rXs_succ (n : Nat) (s : RS) (L : List T3) : rXs (n + 1) s L = rXs n (rX s).2 (L ++ [(rX s).1]) := rfl
/-- The seven fields of an answer, read one after the other. -/
def f1 (s : RS) : RS := (rI s).2
def f2 (s : RS) : RS := (rI (f1 s)).2
def f3 (s : RS) : RS := (rU (f2 s)).2
def f4 (s : RS) : RS := (rI (f3 s)).2
def f5 (s : RS) : RS := (rB (f4 s)).2
def f6 (s : RS) : RS := (rB (f5 s)).2
def f7 (s : RS) : RS := (rI (f6 s)).2
def rA0 (s : RS) : Ans := ⟨(rI s).1, (rI (f1 s)).1, (rU (f2 s)).1, (rI (f3 s)).1, (rB (f4 s)).1, (rB (f5 s)).1, (rI (f6 s)).1, []⟩
def rAn (K : Nat) (s : RS) : Nat × RS := rCS K (f7 s)
def rAx (K : Nat) (s : RS) : List T3 × RS := rXs (rAn K s).1 (rAn K s).2 []
def rA (K : Nat) (s : RS) : Ans := { rA0 s with ins := (rAx K s).1 }
/-- One answer more. -/
abbrev DS := RS × Tr × Bool
def askd (told : Nat) (t : Tr) : Bool := decide (t.state = 0) && decide (told = t.qs.length)
def dS (K told : Nat) (x : DS) : Option DS :=
  if (x.2.1.answer (rA K x.1)).2 ≠ 0 then none else some ((rAx K x.1).2, (x.2.1.answer (rA K x.1)).1, x.2.2 || askd told (x.2.1.answer (rA K x.1)).1)
def dA (K told : Nat) (x : DS) : Nat → Option DS
  | 0 => some x
  | k + 1 => (dA K told x k).bind (dS K told)
theorem dA_none {K told : Nat} {x : DS} {k : Nat} (h : dA K told x k = none) : ∀ n, k ≤ n → dA K told x n = none := fun n hn => by
  induction n with
  | zero => rw [show k = 0 by omega] at h; exact h
  | succ n ih =>
    by_cases e : k = n + 1
    · rw [← e]; exact h
    · show (dA K told x n).bind _ = none
      rw [ih (by omega)]; rfl
/-- The machine of the pending claim. -/
def Tr.pm (t : Tr) : Int := match t.clm[t.ag.length]? with | some p => p.m | none => 0
def gS (t : Tr) : Option Tr := if t.state = 1 then some (t.agreeT t.pm).1 else none
def gA (t : Tr) : Nat → Option Tr
  | 0 => some t
  | k + 1 => (gA t k).bind gS
theorem gA_none {t : Tr} {k : Nat} (h : gA t k = none) : ∀ n, k ≤ n → gA t n = none := fun n hn => by
  induction n with
  | zero => rw [show k = 0 by omega] at h; exact h
  | succ n ih =>
    by_cases e : k = n + 1
    · rw [← e]; exact h
    · show (gA t n).bind _ = none
      rw [ih (by omega)]; rfl
def rfS (b : Bool) (t : Tr) : Option Tr := if b = true then (if t.state = 1 then some (t.refuseT t.pm).1 else none) else some t
/-- The head of the encoding. -/
def h1 (l : List UInt8) : RS := (rI (l, 0)).2
def h2 (l : List UInt8) : RS := (rI (h1 l)).2
def h3 (l : List UInt8) : RS := (rI (h2 l)).2
def h4 (l : List UInt8) : RS := (rU (h3 l)).2
def h5 (l : List UInt8) : RS := (rI (h4 l)).2
def h6 (l : List UInt8) : RS := (rU (h5 l)).2
def hT (l : List UInt8) : Tr := Tr.new (rI (l, 0)).1 (rI (h1 l)).1 ((rI (h2 l)).1, (rU (h3 l)).1, (rI (h4 l)).1)
def hTold (l : List UInt8) : Nat := min (rU (h5 l)).1 1025
def hX (l : List UInt8) : DS := ((rCS l.length (h6 l)).2, hT l, decide (hTold l = 0) || decide (hTold l = 1))
def hN (l : List UInt8) : Nat := (rCS l.length (h6 l)).1
/-- What follows the answers. -/
def dE (l : List UInt8) (told : Nat) (b : Bool) (s : RS) (t : Tr) : Option Tr :=
  if doneE s.1 s.2 = 0 ∧ b = true ∧ encT { t with told := told } = l then some { t with told := told } else none
def dB (l : List UInt8) (told : Nat) (b : Bool) (s : RS) (t : Tr) : Option Tr := (rfS (rB s).1 t).bind (dE l told b (rB s).2)
def dG (l : List UInt8) (told : Nat) (x : DS) : Option Tr := (gA x.2.1 (min (rU x.1).1 1024)).bind (dB l told x.2.2 (rU x.1).2)
def dec (l : List UInt8) : Option Tr := (dA l.length (hTold l) (hX l) (hN l)).bind (dG l (hTold l))
/-- What the walk counts on: the bounds. -/
structure DBnd (l : List UInt8) : Prop where
  len : l.length ≤ 1099511627776
  stp : ∀ k s t b, k < hN l → dA l.length (hTold l) (hX l) k = some (s, t, b) → t.qs.length + (rA l.length s).ins.length ≤ 1000
  fin : ∀ s t b, dA l.length (hTold l) (hX l) (hN l) = some (s, t, b) → t.qs.length ≤ 1000
  hst : hN l ≤ 1000
/-- What holds of the trace while it is played again. -/
structure Tr.Dc (t : Tr) : Prop where
  s1 : t.state = 1 → t.ag.length < t.clm.length
  s0 : t.state = 0 → t.ag = []
  ne : t.qs ≠ []
  rf : t.rf = false
theorem Tr.Dc.new (im is : Int) (st : T3) : (Tr.new im is st).Dc := ⟨by simp [Tr.new], by simp [Tr.new], by simp [Tr.new], rfl⟩
theorem rXs_len : ∀ (n : Nat) (s : RS) (L : List T3), (rXs n s L).1.length = n + L.length
  | 0, s, L => by simp [rXs]
  | n + 1, s, L => by rw [rXs_succ, rXs_len]; simp; omega
theorem rX_fit (s : RS) : InsFit (rX s).1 := ⟨rI_fit _, rU_lt _, rI_fit _⟩
theorem rXs_fit : ∀ (n : Nat) (s : RS) (L : List T3), (∀ x ∈ L, InsFit x) → ∀ x ∈ (rXs n s L).1, InsFit x
  | 0, s, L, h => h
  | n + 1, s, L, h => by
    rw [rXs_succ]
    refine rXs_fit n _ _ (fun x hx => ?_)
    rcases List.mem_append.1 hx with hx | hx
    · exact h x hx
    · rw [List.mem_singleton.1 hx]; exact rX_fit s
theorem rA_ins (K : Nat) (s : RS) : (rA K s).ins = (rAx K s).1 := rfl
theorem rA_len (K : Nat) (s : RS) : (rA K s).ins.length = (rAn K s).1 := by rw [rA_ins, rAx, rXs_len]; simp
theorem rA_ok (K : Nat) (s : RS) (hK : (rA K s).ins.length ≤ 100000) : (rA K s).Ok :=
  ⟨⟨rI_fit _, rI_fit _, rU_lt _⟩, rI_fit _, rI_fit _, fun x hx => by have := rXs_fit (rAn K s).1 (rAn K s).2 [] (by simp) x hx; exact ⟨this.a, this.n, this.c⟩, hK⟩
theorem Tr.Dc.answer {t : Tr} {a : Ans} (h : t.Dc) (hi' : (t.answer a).1.Inv) : (t.answer a).1.Dc := by
  revert hi'
  unfold Tr.answer
  split
  · exact fun _ => h
  rename_i h0
  have h0 : t.state = 0 := by simpa using h0
  split
  · exact fun _ => h
  split
  · exact fun _ => ⟨by simp, by simp, h.ne, h.rf⟩
  split
  · exact fun _ => ⟨by simp, by simp, h.ne, h.rf⟩
  split
  · exact fun _ => ⟨by simp, by simp, h.ne, h.rf⟩
  intro hi'
  have hge : t.qs.length ≤ ((t.take a).put a).qs.length := by
    have := fold_ge a.m a.ins (setQ a.q a t.qs)
    rw [setQ_length] at this
    exact this
  have hpos : 0 < t.qs.length := List.length_pos_iff.2 h.ne
  have hne : ((t.take a).put a).qs ≠ [] := List.length_pos_iff.1 (by omega)
  unfold Tr.close at hi' ⊢
  by_cases hall : allQ ((t.take a).put a).qs = true
  · simp only [hall, if_true] at hi' ⊢
    refine ⟨fun _ => ?_, by simp, hne, h.rf⟩
    have hag : ((t.take a).put a).ag = [] := h.s0 h0
    have hcp := Tr.clm_pos hi' (fun e => by
      have := (rec_len ((t.take a).put a).qs).2.2 hall
      have e' : recOf ((t.take a).put a).qs = [] := e
      rw [e'] at this
      simp at this
      omega)
    show ((t.take a).put a).ag.length < _
    rw [hag]
    exact hcp
  · simp only [hall] at hi' ⊢
    exact ⟨fun e => by simp [Tr.take, Tr.put, h0] at e, fun _ => h.s0 h0, hne, h.rf⟩
theorem Tr.Dc.pm {t : Tr} (h : t.Dc) (h1 : t.state = 1) : ∃ p, t.clm[t.ag.length]? = some p ∧ t.pm = p.m := by
  have := h.s1 h1
  refine ⟨_, List.getElem?_eq_getElem this, ?_⟩
  unfold Tr.pm
  rw [List.getElem?_eq_getElem this]
theorem Tr.Dc.agree_eq {t : Tr} (h : t.Dc) (h1 : t.state = 1) : t.agreeT t.pm = ({ t with ag := t.ag ++ [t.pm], state := if t.ag.length + 1 = t.clm.length then 2 else t.state }, 0) := by
  obtain ⟨p, hp, hm⟩ := h.pm h1
  unfold Tr.agreeT
  rw [if_neg (by simp [h1]), hp]
  simp only
  rw [if_neg (by simp [hm])]
theorem Tr.Dc.refuse_eq {t : Tr} (h : t.Dc) (h1 : t.state = 1) : t.refuseT t.pm = ({ t with state := 4, rf := true }, 0) := by
  obtain ⟨p, hp, hm⟩ := h.pm h1
  unfold Tr.refuseT
  rw [if_neg (by simp [h1]), hp]
  simp only
  rw [if_neg (by simp [hm])]
theorem Tr.Dc.agree {t : Tr} (h : t.Dc) (h1 : t.state = 1) : (t.agreeT t.pm).1.Dc := by
  rw [h.agree_eq h1]
  have hlt := h.s1 h1
  refine ⟨fun e => ?_, fun e => ?_, h.ne, h.rf⟩
  · simp only at e
    split at e
    · omega
    · rename_i hne
      have e2 := @Tr.clm_qs t { t with ag := t.ag ++ [t.pm], state := if t.ag.length + 1 = t.clm.length then 2 else t.state } rfl
      rw [e2]
      simp only [List.length_append, List.length_cons, List.length_nil]
      omega
  · simp only at e
    split at e <;> omega
theorem msA_len (L : List Int) (a : Ans) : (msA L a).length ≤ L.length + 1 := by unfold msA; split <;> simp
theorem msF_len : ∀ (Y : List Ans) (L : List Int), (Y.foldl msA L).length ≤ L.length + Y.length
  | [], L => by simp
  | a :: Y, L => by
    have ih := msF_len Y (msA L a)
    have := msA_len L a
    rw [List.foldl_cons, List.length_cons]
    omega
theorem ms_len (Y : List Ans) : (msOf Y).length ≤ Y.length := by have := msF_len Y []; simpa [msOf] using this
theorem Tr.clm_len {t : Tr} (h : t.Inv) : t.clm.length ≤ t.qs.length := by
  have hs := srtOf_sorted h
  have hp : ClaimsP t (srtOf t.qs) t.clm := refOf_claims hs.2
  obtain ⟨e1, _⟩ := ClaimsP.at' hs.2 hp
  rw [e1]
  have e2 := ms_len (srtOf t.qs)
  have e3 := hs.1.length_eq
  have e4 := (rec_len t.qs).1
  rw [List.length_map] at e3
  have e5 : t.rec' = recOf t.qs := rfl
  rw [e5] at e3
  omega
end Go.Proofs.Ythfdngjbcgkkfaa

namespace Go.Proofs.Ythfdngjbcgkkfaa
open Go.RowKit

structure Tr.Di (t : Tr) (k : Nat) : Prop where
  dc : t.Dc
  hl : t.hist.length ≤ k
  hi : ∀ a ∈ t.hist, a.ins.length ≤ 1000
  nm : t.Num
  ag : t.ag.length ≤ 1000
  st : 0 ≤ t.state ∧ t.state ≤ 4
theorem Tr.Di.new (im is : Int) (st : T3) (h1 : W64 im) (h2 : W64 is) (h3 : W64 st.1) (h4 : st.2.1 < 18446744073709551616) (h5 : W64 st.2.2) : (Tr.new im is st).Di 0 :=
  ⟨Tr.Dc.new im is st, by simp [Tr.new], by simp [Tr.new], ⟨h1, h2, h3, h4, h5⟩, by simp [Tr.new], by simp [Tr.new]⟩
theorem Tr.answer_hist (t : Tr) (a : Ans) : ((t.answer a).1.hist = t.hist ∨ (t.answer a).1.hist = t.hist ++ [a]) ∧ (t.answer a).1.im = t.im ∧ (t.answer a).1.is = t.is ∧ (t.answer a).1.st = t.st ∧ (t.answer a).1.ag = t.ag := by
  unfold Tr.answer
  split
  · exact ⟨.inl rfl, rfl, rfl, rfl, rfl⟩
  split
  · exact ⟨.inl rfl, rfl, rfl, rfl, rfl⟩
  split
  · exact ⟨.inr rfl, rfl, rfl, rfl, rfl⟩
  split
  · exact ⟨.inr rfl, rfl, rfl, rfl, rfl⟩
  split
  · exact ⟨.inr rfl, rfl, rfl, rfl, rfl⟩
  unfold Tr.close
  split <;> exact ⟨.inr rfl, rfl, rfl, rfl, rfl⟩
theorem Tr.answer_st {t : Tr} (h : 0 ≤ t.state ∧ t.state ≤ 4) (a : Ans) : 0 ≤ (t.answer a).1.state ∧ (t.answer a).1.state ≤ 4 := by
  unfold Tr.answer
  split
  · exact h
  split
  · exact h
  split
  · simp
  split
  · simp
  split
  · simp
  unfold Tr.close
  split
  · simp
  · exact h
theorem Tr.Di.answer {t : Tr} {k : Nat} {a : Ans} (h : t.Di k) (hi' : (t.answer a).1.Inv) (ha : a.ins.length ≤ 1000) : (t.answer a).1.Di (k + 1) := by
  obtain ⟨h1, h2, h3, h4, h5⟩ := Tr.answer_hist t a
  refine ⟨h.dc.answer hi', ?_, ?_, ?_, by rw [h5]; exact h.ag, Tr.answer_st h.st a⟩
  · have := h.hl
    rcases h1 with e | e
    · rw [e]; omega
    · rw [e]; simp; omega
  · intro b hb
    rcases h1 with e | e
    · rw [e] at hb; exact h.hi b hb
    · rw [e] at hb
      rcases List.mem_append.1 hb with hb | hb
      · exact h.hi b hb
      · rw [List.mem_singleton.1 hb]; exact ha
  · exact ⟨by rw [h2]; exact h.nm.im, by rw [h3]; exact h.nm.is, by rw [h4]; exact h.nm.s0, by rw [h4]; exact h.nm.s1, by rw [h4]; exact h.nm.s2⟩
theorem Tr.Di.agree {t : Tr} {k : Nat} (h : t.Di k) (h1 : t.state = 1) (hi : t.Inv) (hq : t.qs.length ≤ 1000) : (t.agreeT t.pm).1.Di k :=
  ⟨h.dc.agree h1, by rw [h.dc.agree_eq h1]; exact h.hl, by rw [h.dc.agree_eq h1]; exact h.hi, by rw [h.dc.agree_eq h1]; exact ⟨h.nm.im, h.nm.is, h.nm.s0, h.nm.s1, h.nm.s2⟩, by
    rw [h.dc.agree_eq h1]
    have e1 := h.dc.s1 h1
    have e2 := Tr.clm_len hi
    simp
    omega, by
    rw [h.dc.agree_eq h1]
    have := h.st
    simp only
    split <;> omega⟩
theorem Tr.Di.refuse {t : Tr} {k : Nat} (h : t.Di k) (h1 : t.state = 1) : (t.refuseT t.pm).2 = 0 ∧ (t.refuseT t.pm).1.hist = t.hist ∧ (t.refuseT t.pm).1.Num ∧ (t.refuseT t.pm).1.ag = t.ag ∧ (t.refuseT t.pm).1.state = 4 := by
  rw [h.dc.refuse_eq h1]
  exact ⟨rfl, rfl, ⟨h.nm.im, h.nm.is, h.nm.s0, h.nm.s1, h.nm.s2⟩, rfl, rfl⟩
/-- What its encoding wants. -/
structure Tr.Enc (t : Tr) : Prop where
  nm : t.Num
  hl : t.hist.length ≤ 1000
  hi : ∀ a ∈ t.hist, a.ins.length ≤ 1000
  ag : t.ag.length ≤ 1000
  tl : ∃ tn : Nat, t.told = tn ∧ tn ≤ 1025
  st : 0 ≤ t.state ∧ t.state ≤ 4
end Go.Proofs.Ythfdngjbcgkkfaa

namespace Go.Proofs.Ythfdngjbcgkkfaa
open Go.RowKit

theorem Sh.O.lowD {α : Type} {s : Sh α} {w : World} {B B' e : Nat} {v : Value} {L : List α} (h : s.O w B e v L) (hB : B' ≤ B) : s.O w B' e v L := by
  refine ⟨h.1, ?_⟩
  rcases h.2 with hn | ⟨g, cap, cur, rfl, h1, rest⟩
  · exact .inl hn
  · exact .inr ⟨g, cap, cur, rfl, Nat.le_trans hB h1, rest⟩
theorem TrM.lowD {w : World} {B B' bt bm : Nat} {vo vh vg : Value} {t : Tr} (h : TrM w B bt bm vo vh vg t) (hB : B' ≤ B) : TrM w B' bt bm vo vh vg t := by
  obtain ⟨X, hX, hXL⟩ := h.hi
  exact ⟨h.blk, h.op.lowD hB, ⟨X, hX.lowD hB, hXL⟩, h.ag.lowD hB, h.mp, h.inv, ⟨Nat.le_trans hB h.bB.1, Nat.le_trans hB h.bB.2⟩⟩
theorem RefPost.d {w w' : World} {B bt bm : Nat} {vo vh vg : Value} {t : Tr} {m : Int} {e : Ending} (hi : t.Inv) (h : RefPost w B bt bm vo vh vg t m e w') :
    e = .returned (.int .i64 (t.refuseT m).2) ∧ TrM w' B bt bm vo vh vg (t.refuseT m).1 ∧ Mv (ownT bt bm vo vh vg) (ownT bt bm vo vh vg) w w' := by
  obtain ⟨r, t', rfl, hT, hM, hc⟩ := h
  rcases hc with ⟨h1, rfl, rfl⟩ | ⟨h1, P, Y, p, hY, hP, hget, h2⟩
  · unfold Tr.refuseT
    rw [if_pos h1]
    exact ⟨rfl, hT, hM⟩
  · have hg : t.clm[t.ag.length]? = some p := by rw [← Tr.clm_eq hi hY hP]; exact hget
    unfold Tr.refuseT
    rw [if_neg (by simp [h1]), hg]
    simp only
    rcases h2 with ⟨h3, rfl, rfl⟩ | ⟨h3, rfl, rfl⟩
    · rw [if_pos h3]; exact ⟨rfl, hT, hM⟩
    · rw [if_neg (by simp [h3])]; exact ⟨rfl, hT, hM⟩
abbrev tRd : Nat := 142
theorem RdS.tag {w : World} {br : Nat} {s : RS} (h : RdS w br s) : ∃ cs : Array Value, w.heap[br]? = some (Obj.cells cs tRd (0, 0)) := by obtain ⟨v, h⟩ := h; exact ⟨_, h.1⟩
theorem SlV.moved {w w' : World} {v : Value} {l : List UInt8} {S : List Nat} (h : SlV w v l) (hk : Keeps S w w') (hS : ∀ b ∈ S, ∀ cs : Array Value, w.heap[b]? ≠ some (Obj.cells cs tB (0, 0))) : SlV w' v l := by
  obtain ⟨⟨p1, a, cap, rfl, h2, h3, h0, h4⟩, ht⟩ := h
  have hblk : ∀ g, (Value.slice a l.length cap).ownBlock = some g → w'.heap[g]? = w.heap[g]? := fun g hg => by
    obtain ⟨cs, hc⟩ := ht g hg
    exact hk.block g (lt_of_blk hc) (fun hm => hS g hm cs hc)
  refine ⟨⟨p1, a, cap, rfl, h2, h3, h0, fun hp => ?_⟩, fun g hg => by obtain ⟨cs, hc⟩ := ht g hg; exact ⟨cs, (hblk g hg).trans hc⟩⟩
  obtain ⟨g, o, rfl, hc⟩ := h4 hp
  exact ⟨g, o, rfl, fun j u hj => (World.cell?_of_block (w := w) (a := ⟨g, o + j, none⟩) (hblk g rfl)).trans (hc j u hj)⟩
theorem RdS.moved {w w' : World} {br : Nat} {s : RS} {S : List Nat} (h : RdS w br s) (hk : Keeps S w w') (hbr : br ∉ S) (hS : ∀ b ∈ S, ∀ cs : Array Value, w.heap[b]? ≠ some (Obj.cells cs tB (0, 0))) : RdS w' br s := by
  obtain ⟨v, h1, h2⟩ := h
  exact ⟨v, (hk.block br (lt_of_blk h1) hbr).trans h1, h2.moved hk hS⟩
theorem TrM.nob {w : World} {B bt bm : Nat} {vo vh vg : Value} {t : Tr} (h : TrM w B bt bm vo vh vg t) : ∀ b ∈ ownT bt bm vo vh vg, ∀ cs : Array Value, w.heap[b]? ≠ some (Obj.cells cs tB (0, 0)) := fun b hb cs e => by
  obtain ⟨_, _, ⟨es, c, h1⟩ | ⟨cs', e', h1, h2⟩⟩ := h.own_tag hb
  · rw [h1] at e; cases e
  · rw [h1] at e
    cases e
    rcases h2 with h2 | h2 | h2 | h2 <;> exact absurd h2 (by decide)
/-- The reader in Decode's memory. -/
structure RM (w W : World) (br : Nat) (s : RS) : Prop where
  r : RdS W br s
  k : Keeps [] w W
  ge : w.heap.size ≤ br
structure DM (w W : World) (br bt bm : Nat) (vo vh vg : Value) (s : RS) (t : Tr) : Prop where
  r : RM w W br s
  m : TrM W (br + 1) bt bm vo vh vg t
namespace RM
variable {w W W' : World} {br : Nat} {s s' : RS}
theorem lt (h : RM w W br s) : br < W.heap.size := h.r.lt
theorem ref (h : RM w W br s) (hr : RdS W' br s') (hk : Keeps [br] W W') : RM w W' br s' := ⟨hr, h.k.fresh hk (fun b hb => .inr (by simp at hb; have := h.ge; omega)), h.ge⟩
theorem keeps (h : RM w W br s) (hk : Keeps [] W W') : RM w W' br s := ⟨h.r.keeps hk, h.k.trans hk, h.ge⟩
theorem int (h : RM w W br s) : Calls Try.prog 62 #[.pointer (some ⟨br, 0, none⟩)] W fun e W' => e = .returned (.int .i64 (rI s).1) ∧ RM w W' br (rI s).2 ∧ Keeps [br] W W' :=
  (intS_c W br s h.r).mono fun _ _ ⟨h1, h2, h3⟩ => ⟨h1, h.ref h2 h3, h3⟩
theorem uint (h : RM w W br s) : Calls Try.prog 63 #[.pointer (some ⟨br, 0, none⟩)] W fun e W' => e = .returned (.int .u64 (rU s).1) ∧ RM w W' br (rU s).2 ∧ Keeps [br] W W' :=
  (uintS_c W br s h.r).mono fun _ _ ⟨h1, h2, h3⟩ => ⟨h1, h.ref h2 h3, h3⟩
theorem bool (h : RM w W br s) : Calls Try.prog 65 #[.pointer (some ⟨br, 0, none⟩)] W fun e W' => e = .returned (.bool (rB s).1) ∧ RM w W' br (rB s).2 ∧ Keeps [br] W W' :=
  (boolS_c W br s h.r).mono fun _ _ ⟨h1, h2, h3⟩ => ⟨h1, h.ref h2 h3, h3⟩
theorem count (h : RM w W br s) (K : Nat) (hK : K ≤ 1099511627776) : Calls Try.prog 64 #[.pointer (some ⟨br, 0, none⟩), .int .i64 (K : Nat)] W fun e W' => e = .returned (.int .i64 (rCS K s).1) ∧ RM w W' br (rCS K s).2 ∧ Keeps [br] W W' :=
  (countS_c K hK W br s h.r).mono fun _ _ ⟨h1, h2, h3⟩ => ⟨h1, h.ref h2 h3, h3⟩
end RM
namespace DM
variable {w W W' : World} {br bt bm : Nat} {vo vh vg vo' vh' vg' : Value} {s s' : RS} {t t' : Tr}
/-- Other blocks than the trace's were written, the reader is in another state. -/
theorem ref (h : DM w W br bt bm vo vh vg s t) (hr : RM w W' br s') (hk : Keeps [br] W W') : DM w W' br bt bm vo vh vg s' t := by
  obtain ⟨cs, hc⟩ := h.r.r.tag
  refine ⟨hr, h.m.keep hk (fun b hb e => ?_) (hk.ki (fun b hb cs' f hx => ?_))⟩
  · have := (h.m.own_tag hb).1
    simp at e
    omega
  · simp at hb
    subst hb
    rw [hc] at hx
    simp only [Option.some.injEq, Obj.cells.injEq] at hx
    exact absurd hx.2.1 (by decide)
theorem keeps (h : DM w W br bt bm vo vh vg s t) (hk : Keeps [] W W') : DM w W' br bt bm vo vh vg s t := ⟨h.r.keeps hk, h.m.keeps hk⟩
theorem mv (h : DM w W br bt bm vo vh vg s t) (hm : TrM W' (br + 1) bt bm vo' vh' vg' t') (hM : Mv (ownT bt bm vo vh vg) (ownT bt bm vo' vh' vg') W W') : DM w W' br bt bm vo' vh' vg' s t' :=
  ⟨⟨h.r.r.moved hM.k (fun hb => by have := (h.m.own_tag hb).1; omega) h.m.nob, h.r.k.fresh hM.k (fun b hb => .inr (by have := (h.m.own_tag hb).1; have := h.r.ge; omega)), h.r.ge⟩, hm⟩
theorem int (h : DM w W br bt bm vo vh vg s t) : Calls Try.prog 62 #[.pointer (some ⟨br, 0, none⟩)] W fun e W' => e = .returned (.int .i64 (rI s).1) ∧ DM w W' br bt bm vo vh vg (rI s).2 t ∧ Keeps [br] W W' :=
  h.r.int.mono fun _ _ ⟨h1, h2, h3⟩ => ⟨h1, h.ref h2 h3, h3⟩
theorem uint (h : DM w W br bt bm vo vh vg s t) : Calls Try.prog 63 #[.pointer (some ⟨br, 0, none⟩)] W fun e W' => e = .returned (.int .u64 (rU s).1) ∧ DM w W' br bt bm vo vh vg (rU s).2 t ∧ Keeps [br] W W' :=
  h.r.uint.mono fun _ _ ⟨h1, h2, h3⟩ => ⟨h1, h.ref h2 h3, h3⟩
theorem bool (h : DM w W br bt bm vo vh vg s t) : Calls Try.prog 65 #[.pointer (some ⟨br, 0, none⟩)] W fun e W' => e = .returned (.bool (rB s).1) ∧ DM w W' br bt bm vo vh vg (rB s).2 t ∧ Keeps [br] W W' :=
  h.r.bool.mono fun _ _ ⟨h1, h2, h3⟩ => ⟨h1, h.ref h2 h3, h3⟩
theorem count (h : DM w W br bt bm vo vh vg s t) (K : Nat) (hK : K ≤ 1099511627776) : Calls Try.prog 64 #[.pointer (some ⟨br, 0, none⟩), .int .i64 (K : Nat)] W fun e W' => e = .returned (.int .i64 (rCS K s).1) ∧ DM w W' br bt bm vo vh vg (rCS K s).2 t ∧ Keeps [br] W W' :=
  (h.r.count K hK).mono fun _ _ ⟨h1, h2, h3⟩ => ⟨h1, h.ref h2 h3, h3⟩
theorem blk (h : DM w W br bt bm vo vh vg s t) {b : Nat} {o : Obj} (hb : W.heap[b]? = some o) (hk : Keeps [br] W W') (hne : b ≠ br) : W'.heap[b]? = some o := (hk.block b (lt_of_blk hb) (by simpa using hne)).trans hb
end DM
theorem RM.blk {w W W' : World} {br b : Nat} {s : RS} {o : Obj} (_ : RM w W br s) (hb : W.heap[b]? = some o) (hk : Keeps [br] W W') (hne : b ≠ br) : W'.heap[b]? = some o := (hk.block b (lt_of_blk hb) (by simpa using hne)).trans hb
/-- What the call of Decode leaves. -/
def DPost (w : World) (r : Option Tr) (e : Ending) (w' : World) : Prop :=
  Keeps [] w w' ∧ ((r = none ∧ e = .returned (.tuple #[.pointer none, .int .i64 11])) ∨
    ∃ t bt bm vo vh vg, r = some t ∧ e = .returned (.tuple #[.pointer (some ⟨bt, 0, none⟩), .int .i64 0]) ∧ TrM w' w.heap.size bt bm vo vh vg t ∧ t.Enc)
theorem Sh.owp_app {α : Type} {P : Program} {o : Oper} {a : Act} {w : World} {K : Act → World → Prop} {Q : Exit → Act → World → Prop} (s : Sh α) (B : Nat) {e t : TypeId} {z : Value} {by_ : Nat} (hinf : (P.info? e).map (fun i => (i.zero, i.size, i.bytes)) = some (some z, s.sz, by_)) (hz : z.cells.size = s.sz) (ht : P.underlying t = some (.slice e))
    (v v2 : Value) (L M : List α) (x y : Operand) (ho : o.op = .call { callee := .builtin .append, args := #[x, y], argTypes := #[t, t] }) (hs : a.eval x = v) (hx : a.eval y = v2) (h : s.O w B e v L) (hsl : s.R w v2 M)
    (hl : (L.length + M.length) * (by_ + 1) ≤ 140737488355328) (hB : B ≤ w.heap.size) (hR : ∀ v' w', s.O w' B e v' (L ++ M) → Grw w w' v v' → K (a.put o.dst v') w') : o.wp P a w K Q := by
  obtain ⟨i0, hi, hz0, hz1, hz2⟩ := info_parts hinf
  have h1 : L.length + M.length ≤ (L.length + M.length) * (by_ + 1) := Nat.le_mul_of_pos_right _ (by omega)
  have h2 : (L.length + M.length) * by_ ≤ (L.length + M.length) * (by_ + 1) := Nat.mul_le_mul_left _ (by omega)
  obtain ⟨v', w', hr, h3, h4, _⟩ := run_append_x (P := P) B t o.type e i0 z s.sz by_ ht hi hz0 hz1 hz2 hz s.pos v L.length (s.cs L) h v2 M.length (s.cs M) hsl (Sh.cs_one M) (by unfold maxLen; omega) (by omega) hB
  unfold Oper.wp execOp
  simp only [ho, resolve, invoke, builtin, Sem.run_bind, Sem.run_pure, Result.andThen_ok, List.map_toArray, List.map_cons, List.map_nil, hs, hx, hr]
  refine hR v' w' ?_ h4
  unfold Sh.O
  rw [Sh.cs_append, List.length_append]
  exact h3
theorem RM.moved {w W W' : World} {br : Nat} {s : RS} {S : List Nat} (h : RM w W br s) (hk : Keeps S W W') (hbr : br ∉ S) (hS : ∀ b ∈ S, ∀ cs : Array Value, W.heap[b]? ≠ some (Obj.cells cs tB (0, 0))) (hw : ∀ b ∈ S, w.heap.size ≤ b) : RM w W' br s :=
  ⟨h.r.moved hk hbr hS, h.k.fresh hk (fun b hb => .inr (hw b hb)), h.ge⟩
namespace DM
variable {w W W' : World} {br bt bm : Nat} {vo vh vg : Value} {s : RS} {t : Tr}
theorem claim (h : DM w W br bt bm vo vh vg s t) (hq : t.qs.length ≤ 1000) (hd : t.Dc) : Calls Try.prog 49 #[.pointer (some ⟨bt, 0, none⟩)] W fun e W' => ∃ x : ClV, e = .returned (.tuple #[clV x, .bool (t.state == 1)]) ∧ (t.state = 1 → x.m = t.pm) ∧ Keeps [] W W' :=
  (claim_c W (br + 1) bt bm vo vh vg t h.m hq (fun hs P Y hY hP => by rw [Tr.clm_eq h.m.inv hY hP]; exact hd.s1 hs)).mono fun e W' ⟨x, p, h1, h2, h3, h4⟩ => ⟨x, h1, fun hs => by
    rcases h4 with ⟨h5, _⟩ | ⟨_, P, Y, hY, hP, hp⟩
    · exact absurd hs h5
    · obtain ⟨p', e1, e2⟩ := hd.pm hs
      rw [Tr.clm_eq h.m.inv hY hP] at hp
      rw [hp] at e1
      cases e1
      rw [h2.m, e2], h3⟩
theorem agree (h : DM w W br bt bm vo vh vg s t) (hq : t.qs.length ≤ 1000) (ha : t.ag.length ≤ 1000) (hd : t.Dc) : Calls Try.prog 40 #[.pointer (some ⟨bt, 0, none⟩), .int .i64 t.pm] W fun e W' => ∃ vg' r, e = .returned (.int .i64 r) ∧ DM w W' br bt bm vo vh vg' s (t.agreeT t.pm).1 :=
  (agree_c W (br + 1) bt bm vo vh vg t t.pm h.m hq ha hd.s1).mono fun e W' ⟨vg', h1, h2, h3⟩ => ⟨vg', _, h1, h.mv h2 h3⟩
theorem refuse (h : DM w W br bt bm vo vh vg s t) (hq : t.qs.length ≤ 1000) (hd : t.Dc) (m : Int) : Calls Try.prog 42 #[.pointer (some ⟨bt, 0, none⟩), .int .i64 m] W fun e W' => e = .returned (.int .i64 (t.refuseT m).2) ∧ DM w W' br bt bm vo vh vg s (t.refuseT m).1 :=
  (refuse_c W (br + 1) bt bm vo vh vg t m h.m hq (fun hs P Y hY hP => by rw [Tr.clm_eq h.m.inv hY hP]; exact hd.s1 hs)).mono fun e W' hp => by
    obtain ⟨h1, h2, h3⟩ := hp.d h.m.inv
    exact ⟨h1, h.mv h2 h3⟩
theorem told (h : DM w W br bt bm vo vh vg s t) (n : Int) : DM w (W.setCell ⟨bt, 6, none⟩ (.int .i64 n)) br bt bm vo vh vg s { t with told := n } :=
  h.mv (h.m.setTold n) (h.m.mvSet 6 _)
end DM
end Go.Proofs.Ythfdngjbcgkkfaa

namespace Go.Proofs.Ythfdngjbcgkkfaa
open Go Go.RowKit

set_option maxRecDepth 100000 in
set_option maxHeartbeats 20000000 in
theorem decode_c (w : World) (v0 : Value) (l : List UInt8) (h : SlB w v0 l) (hb : DBnd l) : Calls Try.prog 29 #[v0] w (DPost w (dec l)) := by
  obtain ⟨a0, c0, rfl⟩ := h.form
  have hcap := h.cap
  obtain ⟨hl1, hstp, hfin, hhst⟩ := hb
  have hdec : dec l = (dA l.length (hTold l) (hX l) (hN l)).bind (dG l (hTold l)) := rfl
  have him := rI_fit (l, 0)
  have his := rI_fit (h1 l)
  have hst0 := rI_fit (h2 l)
  have hst1 := rU_lt (h3 l)
  have htul := rU_lt (h5 l)
  have hhT : hT l = Tr.new (rI (l, 0)).1 (rI (h1 l)).1 ((rI (h2 l)).1, (rU (h3 l)).1, (rI (h4 l)).1) := rfl
  have hhX : hX l = ((rCS l.length (h6 l)).2, hT l, decide (hTold l = 0) || decide (hTold l = 1)) := rfl
  have hhN : hN l = (rCS l.length (h6 l)).1 := rfl
  have hhTo : hTold l = min (rU (h5 l)).1 1025 := rfl
  obtain ⟨im, eim⟩ : ∃ x, (rI (l, 0)).1 = x := ⟨_, rfl⟩
  obtain ⟨is, eis⟩ : ∃ x, (rI (h1 l)).1 = x := ⟨_, rfl⟩
  obtain ⟨s0, es0⟩ : ∃ x, (rI (h2 l)).1 = x := ⟨_, rfl⟩
  obtain ⟨s1, es1⟩ : ∃ x, (rU (h3 l)).1 = x := ⟨_, rfl⟩
  obtain ⟨s2, es2⟩ : ∃ x, (rI (h4 l)).1 = x := ⟨_, rfl⟩
  obtain ⟨tu, etu⟩ : ∃ x, (rU (h5 l)).1 = x := ⟨_, rfl⟩
  obtain ⟨M, hM⟩ : ∃ x, l.length = x := ⟨_, rfl⟩
  obtain ⟨told, etold⟩ : ∃ x, hTold l = x := ⟨_, rfl⟩
  obtain ⟨X, eX⟩ : ∃ x, hX l = x := ⟨_, rfl⟩
  obtain ⟨N, eN⟩ : ∃ x, hN l = x := ⟨_, rfl⟩
  obtain ⟨T, eT⟩ : ∃ x, hT l = x := ⟨_, rfl⟩
  simp only [eim, eis, es0, es1, es2, etu, hM, etold, eX, eN, eT] at h hcap him his hst0 hst1 htul hhT hhX hhN hhTo hdec hstp hfin hhst hl1
  rw [hM]
  have htm : (min (tu : Int) 1025) = told := by rw [hhTo]; omega
  have htold : told ≤ 1025 := by rw [hhTo]; omega
  have hMx : M ≤ 9223372036854775807 := by omega

  replace h := Lib.hid h
  replace hl1 := Lib.hid hl1
  replace hstp := Lib.hid hstp
  replace hfin := Lib.hid hfin
  replace hhst := Lib.hid hhst
  replace hdec := Lib.hid hdec
  replace him := Lib.hid him
  replace his := Lib.hid his
  replace hst0 := Lib.hid hst0
  replace hst1 := Lib.hid hst1
  replace hhT := Lib.hid hhT
  replace hhX := Lib.hid hhX
  replace hhN := Lib.hid hhN
  replace hhTo := Lib.hid hhTo
  replace eim := Lib.hid eim
  replace eis := Lib.hid eis
  replace es0 := Lib.hid es0
  replace es1 := Lib.hid es1
  replace es2 := Lib.hid es2
  replace etu := Lib.hid etu
  replace hM := Lib.hid hM
  replace etold := Lib.hid etold
  replace eX := Lib.hid eX
  replace eN := Lib.hid eN
  replace eT := Lib.hid eT
  replace hcap := Lib.hid hcap
  go_enter Try.func29, Try.ntmps29
  go_wp2_with fail
  refine (newReader_c w _ l h.out (by rw [hM.out]; have := hl1.out; omega)).mono ?_
  rintro e w1 ⟨br, v1, rfl, hbr, hR1, hk1⟩
  have hR : RM w w1 br (l, 0) := ⟨⟨v1, hR1⟩, hk1, hbr⟩
  have hz0 := hR.lt
  replace hR := Lib.hid hR
  clear hR1 hk1
  go_wp2_with fail
  refine (hR.out.int).mono ?_
  rintro e w2 ⟨rfl, hR9, hk9⟩
  rw [eim.out]
  replace hR9 : RM w w2 br (h1 l) := hR9
  have hz9 := hk9.size
  replace hz0 := Nat.le_trans hz0 hz9
  clear hR hk9 hz9
  have hR := Lib.hid hR9
  clear hR9
  go_wp2_with fail
  refine (hR.out.int).mono ?_
  rintro e w3 ⟨rfl, hR9, hk9⟩
  rw [eis.out]
  replace hR9 : RM w w3 br (h2 l) := hR9
  have hz9 := hk9.size
  replace hz0 := Nat.le_trans hz0 hz9
  clear hR hk9 hz9
  have hR := Lib.hid hR9
  clear hR9
  go_wp2_with fail
  have hbr5 : br < w3.heap.size := hz0
  have hA9 : Keeps [] w3 (w3.alloc (.cells #[.int .i64 im, .int .i64 is] 23)) := (Keeps.refl _ _).alloc _
  have hb5 := heap_alloc_new w3 (.cells #[.int .i64 im, .int .i64 is] 23)
  have hR9 := hR.out.keeps hA9
  have hz9 : (w3.alloc (.cells #[.int .i64 im, .int .i64 is] 23)).heap.size = w3.heap.size + 1 := by simp
  replace hz0 : br < (w3.alloc (.cells #[.int .i64 im, .int .i64 is] 23)).heap.size := by omega
  generalize (w3.alloc (.cells #[.int .i64 im, .int .i64 is] 23)) = wA at *
  have hzwA := hz9
  clear hR hA9 hz9
  have hR := Lib.hid hR9
  clear hR9
  replace hb5 := Lib.hid hb5
  obtain ⟨b5, eb5⟩ : ∃ x, w3.heap.size = x := ⟨_, rfl⟩
  rw [eb5] at hb5 hbr5 ⊢
  clear hzwA eb5
  refine (hR.out.int).mono ?_
  rintro e w4 ⟨rfl, hR9, hk9⟩
  rw [es0.out]
  replace hR9 : RM w w4 br (h3 l) := hR9
  replace hb5 := Lib.hid (hR.out.blk hb5.out hk9 (by omega))
  have hz9 := hk9.size
  replace hz0 := Nat.le_trans hz0 hz9
  clear hR hk9 hz9
  have hR := Lib.hid hR9
  clear hR9
  go_wp2_with fail
  refine (hR.out.uint).mono ?_
  rintro e w5 ⟨rfl, hR9, hk9⟩
  rw [es1.out]
  replace hR9 : RM w w5 br (h4 l) := hR9
  replace hb5 := Lib.hid (hR.out.blk hb5.out hk9 (by omega))
  have hz9 := hk9.size
  replace hz0 := Nat.le_trans hz0 hz9
  clear hR hk9 hz9
  have hR := Lib.hid hR9
  clear hR9
  go_wp2_with fail
  refine (hR.out.int).mono ?_
  rintro e w6 ⟨rfl, hR9, hk9⟩
  rw [es2.out]
  replace hR9 : RM w w6 br (h5 l) := hR9
  replace hb5 := Lib.hid (hR.out.blk hb5.out hk9 (by omega))
  have hz9 := hk9.size
  replace hz0 := Nat.le_trans hz0 hz9
  clear hR hk9 hz9
  have hR := Lib.hid hR9
  clear hR9
  go_wp2_with fail
  have hbr6 : br < w6.heap.size := hz0
  have hA9 : Keeps [] w6 (w6.alloc (.cells #[.int .i64 s0, .int .u64 s1, .int .i64 s2] tN)) := (Keeps.refl _ _).alloc _
  have hb6 := heap_alloc_new w6 (.cells #[.int .i64 s0, .int .u64 s1, .int .i64 s2] tN)
  have hR9 := hR.out.keeps hA9
  replace hb5 := Lib.hid ((hA9.block _ (lt_of_blk hb5.out) (by simp)).trans hb5.out)
  have hz9 : (w6.alloc (.cells #[.int .i64 s0, .int .u64 s1, .int .i64 s2] tN)).heap.size = w6.heap.size + 1 := by simp
  replace hz0 : br < (w6.alloc (.cells #[.int .i64 s0, .int .u64 s1, .int .i64 s2] tN)).heap.size := by omega
  generalize (w6.alloc (.cells #[.int .i64 s0, .int .u64 s1, .int .i64 s2] tN)) = wB at *
  have hzwB := hz9
  clear hR hA9 hz9
  have hR := Lib.hid hR9
  clear hR9
  replace hb6 := Lib.hid hb6
  obtain ⟨b6, eb6⟩ : ∃ x, w6.heap.size = x := ⟨_, rfl⟩
  rw [eb6] at hb6 hbr6 ⊢
  clear hzwB eb6
  refine (hR.out.uint).mono ?_
  rintro e w7 ⟨rfl, hR9, hk9⟩
  rw [etu.out]
  replace hR9 : RM w w7 br (h6 l) := hR9
  replace hb5 := Lib.hid (hR.out.blk hb5.out hk9 (by omega))
  replace hb6 := Lib.hid (hR.out.blk hb6.out hk9 (by omega))
  have hz9 := hk9.size
  replace hz0 := Nat.le_trans hz0 hz9
  clear hR hk9 hz9
  have hR := Lib.hid hR9
  clear hR9
  obtain ⟨i0, i1, if', il⟩ := cl2 hb5.out
  obtain ⟨n0, n1, n2, nf, nl⟩ := cl3 hb6.out
  go_wp2_with fail
  refine (new_c w7 im is (s0, s1, s2) him.out hst0.out hst1.out).mono ?_
  rintro e w8 ⟨bt, bm, vo, rfl, hT8, hk8⟩
  rw [← hhT.out] at hT8
  have hD : DM w w8 br bt bm vo (.slice none 0 0) (.slice none 0 0) (h6 l) T := ⟨hR.out.keeps hk8, hT8.lowD (by omega)⟩
  have hDi : T.Di 0 := by rw [hhT.out]; exact Tr.Di.new im is (s0, s1, s2) him.out his.out hst0.out hst1.out (by have := rI_fit (h4 l); rw [es2.out] at this; exact this)
  have hTop : T.op.length = 1 := by rw [hhT.out]; rfl
  have hTqs : T.qs.length = 1 := by rw [hhT.out]; rfl
  have hm5 := hT8.cells.2.2.2.2.2.1
  obtain ⟨ao, co, evo⟩ := hT8.op.form
  rw [hTop] at evo
  subst evo
  clear hT8 hk8 hR hb5 hb6 i0 i1 if' il n0 n1 n2 nf nl hbr5 hbr6 hTop
  obtain ⟨ba, hba⟩ : ∃ x, decide (told = 0) = x := ⟨_, rfl⟩
  obtain ⟨bb, hbb⟩ : ∃ x, decide (told = 1) = x := ⟨_, rfl⟩
  have hba2 : ((told : Int) == 0) = ba := by rw [← hba, Bool.eq_iff_iff]; simp
  have hbb2 : ((told : Int) == 1) = bb := by rw [← hbb, Bool.eq_iff_iff]; simp; omega
  have hhX := hhX.out
  rw [hba, hbb] at hhX
  replace hhX := Lib.hid hhX
  replace hD := Lib.hid hD
  replace hDi := Lib.hid hDi
  replace hba := Lib.hid hba
  replace hbb := Lib.hid hbb
  replace hTqs := Lib.hid hTqs
  have hltt := hD.out.m.lt
  go_upto_region 6 with fail
  go_cut [9] from 10 to 156 (fun av wx => av = .bool (ba || bb) ∧ wx = w8)
  case first =>
    cases ba with
    | true =>
      go_wp2
      go_meet
      case rel => exact ⟨rfl, rfl⟩
    | false =>
      go_wp2
      go_meet
      case rel => exact ⟨rfl, rfl⟩
  case rest =>
  obtain ⟨rfl, rfl⟩ := hcut
  go_wp2_with fail
  refine (hD.out.count M hl1.out).mono ?_
  rintro e w9 ⟨rfl, hD9, hk9⟩
  rw [← hhN.out]
  have eX1 := congrArg (fun x => x.1) hhX.out
  simp only at eX1
  rw [← eX1] at hD9
  have hbr1 : br < w9.heap.size := hD9.r.lt
  replace hD9 := Lib.hid hD9
  clear hk9 hltt hm5 hD eX1
  have hI0 : dA M told X 0 = some (X.1, T, ba || bb) := by
    show some X = _
    rw [hhX.out]
  have hNM : N ≤ M := by rw [hhN.out]; exact rCS_le M _
  replace hI0 := Lib.hid hI0
  go_wp2
  go_loopw [9, 51] (fun av iv wr => ∃ (k : Nat) (s : RS) (t : Tr) (b : Bool) (vo vh : Value), iv = .int .i64 k ∧ av = .bool b ∧ k ≤ N ∧ dA M told X k = some (s, t, b) ∧ DM w wr br bt bm vo vh (.slice none 0 0) s t ∧ t.Di k) (fun _ iv _ => N - (intOf iv).toNat)
  case atStart => exact ⟨0, _, T, _, _, _, rfl, rfl, by omega, hI0.out, hD9.out, hDi.out⟩
  case round =>
    obtain ⟨k, s, t, b, vo, vh, rfl, rfl, hk, hdk, hDk, hDik⟩ := hrel
    have hz0 := hDk.r.lt
    have hD := Lib.hid hDk
    replace hdk := Lib.hid hdk
    replace hDik := Lib.hid hDik
    clear hDk hD9 hDi hbr1
    by_cases hlt : k < N
    case pos =>
      obtain ⟨m0, em0⟩ : ∃ x, (rI s).1 = x := ⟨_, rfl⟩
      obtain ⟨o0, eo0⟩ : ∃ x, (rI (f1 s)).1 = x := ⟨_, rfl⟩
      obtain ⟨n0, en0⟩ : ∃ x, (rU (f2 s)).1 = x := ⟨_, rfl⟩
      obtain ⟨p0, ep0⟩ : ∃ x, (rI (f3 s)).1 = x := ⟨_, rfl⟩
      obtain ⟨k0, ek0⟩ : ∃ x, (rB (f4 s)).1 = x := ⟨_, rfl⟩
      obtain ⟨r0, er0⟩ : ∃ x, (rB (f5 s)).1 = x := ⟨_, rfl⟩
      obtain ⟨g0, eg0⟩ : ∃ x, (rI (f6 s)).1 = x := ⟨_, rfl⟩
      have hA0 : rA0 s = ⟨m0, o0, n0, p0, k0, r0, g0, []⟩ := by unfold rA0; rw [em0, eo0, en0, ep0, ek0, er0, eg0]

      replace em0 := Lib.hid em0
      replace eo0 := Lib.hid eo0
      replace en0 := Lib.hid en0
      replace ep0 := Lib.hid ep0
      replace ek0 := Lib.hid ek0
      replace er0 := Lib.hid er0
      replace eg0 := Lib.hid eg0
      replace hA0 := Lib.hid hA0
      go_wp2_with fail
      refine (hD.out.int).mono ?_
      rintro e a1 ⟨rfl, hD9, hk9⟩
      rw [em0.out]
      replace hD9 : DM w a1 br bt bm vo vh (.slice none 0 0) (f1 s) t := hD9
      replace hz0 := hD9.r.lt
      clear hD hk9
      have hD := Lib.hid hD9
      clear hD9
      go_wp2_with fail
      refine (hD.out.int).mono ?_
      rintro e a2 ⟨rfl, hD9, hk9⟩
      rw [eo0.out]
      replace hD9 : DM w a2 br bt bm vo vh (.slice none 0 0) (f2 s) t := hD9
      replace hz0 := hD9.r.lt
      clear hD hk9
      have hD := Lib.hid hD9
      clear hD9
      go_wp2_with fail
      refine (hD.out.uint).mono ?_
      rintro e a3 ⟨rfl, hD9, hk9⟩
      rw [en0.out]
      replace hD9 : DM w a3 br bt bm vo vh (.slice none 0 0) (f3 s) t := hD9
      replace hz0 := hD9.r.lt
      clear hD hk9
      have hD := Lib.hid hD9
      clear hD9
      go_wp2_with fail
      refine (hD.out.int).mono ?_
      rintro e a4 ⟨rfl, hD9, hk9⟩
      rw [ep0.out]
      replace hD9 : DM w a4 br bt bm vo vh (.slice none 0 0) (f4 s) t := hD9
      replace hz0 := hD9.r.lt
      clear hD hk9
      have hD := Lib.hid hD9
      clear hD9
      go_wp2_with fail
      refine (hD.out.bool).mono ?_
      rintro e a5 ⟨rfl, hD9, hk9⟩
      rw [ek0.out]
      replace hD9 : DM w a5 br bt bm vo vh (.slice none 0 0) (f5 s) t := hD9
      replace hz0 := hD9.r.lt
      clear hD hk9
      have hD := Lib.hid hD9
      clear hD9
      go_wp2_with fail
      refine (hD.out.bool).mono ?_
      rintro e a6 ⟨rfl, hD9, hk9⟩
      rw [er0.out]
      replace hD9 : DM w a6 br bt bm vo vh (.slice none 0 0) (f6 s) t := hD9
      replace hz0 := hD9.r.lt
      clear hD hk9
      have hD := Lib.hid hD9
      clear hD9
      go_wp2_with fail
      refine (hD.out.int).mono ?_
      rintro e a7 ⟨rfl, hD9, hk9⟩
      rw [eg0.out]
      replace hD9 : DM w a7 br bt bm vo vh (.slice none 0 0) (f7 s) t := hD9
      replace hz0 := hD9.r.lt
      clear hD hk9
      have hD := Lib.hid hD9
      clear hD9
      go_wp2_with fail
      have hA9 : Keeps [] a7 (a7.alloc (.cells #[.int .i64 m0, .int .i64 o0, .int .u64 n0, .int .i64 p0, .bool k0, .bool r0, .int .i64 g0, .slice none 0 0] tA)) := (Keeps.refl _ _).alloc _
      have hbx := heap_alloc_new a7 (.cells #[.int .i64 m0, .int .i64 o0, .int .u64 n0, .int .i64 p0, .bool k0, .bool r0, .int .i64 g0, .slice none 0 0] tA)
      have hD9 := hD.out.keeps hA9
      generalize (a7.alloc (.cells #[.int .i64 m0, .int .i64 o0, .int .u64 n0, .int .i64 p0, .bool k0, .bool r0, .int .i64 g0, .slice none 0 0] tA)) = aA at *
      obtain ⟨bx, ebx⟩ : ∃ x, a7.heap.size = x := ⟨_, rfl⟩
      rw [ebx] at hbx ⊢
      have hbrx : br < bx := by omega
      refine (hD9.count M hl1.out).mono ?_
      rintro e a8 ⟨rfl, hD8, hk8⟩
      replace hbx := hD9.blk hbx hk8 (by omega)
      have hk78 : Keeps [br] a7 a8 := hA9.of_nil.trans hk8
      have hR := hD8.r
      obtain ⟨n, en⟩ : ∃ x, (rAn M s).1 = x := ⟨_, rfl⟩
      obtain ⟨sx, esx⟩ : ∃ x, (rAn M s).2 = x := ⟨_, rfl⟩
      have hqi := hstp.out k s t b hlt hdk.out
      rw [rA_len, en] at hqi
      have hnl : n ≤ 1000 := by omega
      replace hR : RM w a8 br sx := by rw [← esx]; exact hR
      rw [show (rCS M (f7 s)).1 = n from en]
      have hxz := (lt_of_blk hbx)
      clear hD8 hD9 hA9 hk8 hz0

      replace hR := Lib.hid hR
      replace hk78 := Lib.hid hk78
      replace hbx := Lib.hid hbx
      replace en := Lib.hid en
      replace esx := Lib.hid esx
      replace hqi := Lib.hid hqi
      replace ebx := Lib.hid ebx
      go_wp2
      go_loopw [72] (fun jv wr => ∃ (j : Nat) (s' : RS) (L : List T3) (v : Value), jv = .int .i64 j ∧ j ≤ n ∧ L.length = j ∧ rXs n sx [] = rXs (n - j) s' L ∧ RM w wr br s' ∧ Keeps [br] a7 wr ∧ wr.heap[bx]? = some (.cells #[.int .i64 m0, .int .i64 o0, .int .u64 n0, .int .i64 p0, .bool k0, .bool r0, .int .i64 g0, v] tA (0, 0)) ∧ shT.O wr (bx + 1) tI v L ∧ bx < wr.heap.size) (fun jv _ => n - (intOf jv).toNat)
      case atStart => exact ⟨0, sx, [], _, rfl, by omega, rfl, rfl, hR.out, hk78.out, hbx.out, Sh.O.nil _ _ _ _, hxz⟩
      case round =>
        obtain ⟨j, s', L, v, rfl, hj, hLj, hrx, hR', hkr, hbx', hO, hxz'⟩ := hrel
        clear hR hk78 hbx hxz
        obtain ⟨ai, ci, rfl⟩ := hO.form
        rw [hLj] at hO hbx'
        replace hrx := Lib.hid hrx
        replace hR' := Lib.hid hR'
        replace hkr := Lib.hid hkr
        replace hbx' := Lib.hid hbx'
        replace hO := Lib.hid hO
        replace hLj := Lib.hid hLj
        by_cases hltj : j < n
        case pos =>
          obtain ⟨d0, d1, d2, d3, d4, d5, d6, d7, df, dl⟩ := cl8 hbx'.out
          obtain ⟨x0, ex0⟩ : ∃ x, (rI s').1 = x := ⟨_, rfl⟩
          obtain ⟨x1, ex1⟩ : ∃ x, (rU (rI s').2).1 = x := ⟨_, rfl⟩
          obtain ⟨x2, ex2⟩ : ∃ x, (rI (rU (rI s').2).2).1 = x := ⟨_, rfl⟩
          obtain ⟨s4, es4⟩ : ∃ x, (rI (rU (rI s').2).2).2 = x := ⟨_, rfl⟩
          have hX1 : rX s' = ((x0, x1, x2), s4) := by unfold rX; rw [ex0, ex1, ex2, es4]
          replace ex0 := Lib.hid ex0
          replace ex1 := Lib.hid ex1
          replace ex2 := Lib.hid ex2
          replace es4 := Lib.hid es4
          replace hX1 := Lib.hid hX1
          go_upto_region 12 with fail
          have hRd := Lib.hid (hR'.out.keeps (Keeps.refl [] wr).drew)
          refine Free.wp_region_chain (fun i => i == 3 || i == 5 || i == 7 || i == 9 || i == 10 || i == 12) (fun i => true) (fun j b => ((j = 3 ∨ j = 5 ∨ j = 7) ∧ b = br) ∨ (j = 10 ∧ bx < b) ∨ (j = 12 ∧ b = bx)) (by kernel_rfl) (by kernel_rfl) (by kernel_rfl) ?_
          (repeat (first | (apply Free.cw_pure rfl rfl; (intro w'; go_simp <;> exact rfl); go_frame) | (apply Free.cw_steady rfl rfl rfl; (intro w' hS; have q0 := Free.sx_cell hS d7 (fun j hp hT => Or.elim hT (fun h => by have := h.2; omega) (fun h => Or.elim h (fun h => by have := h.2; omega) (fun h => by obtain ⟨rfl, _⟩ := h; exact absurd hp (by decide +kernel)))); go_simp <;> exact rfl); go_frame) | (refine Free.cw_skip rfl ?_; go_frame)))
          refine Free.cw_loud rfl rfl (fun K hK => ?_)
          go_wp2_with fail
          refine (hRd.out.int).mono ?_
          rintro e b1 ⟨rfl, hR1, hk1⟩
          rw [ex0.out]
          refine hK _ _ rfl (Free.KeepsP.of hk1 (fun b hb => by simp at hb; simp [hb])) ?_
          clear hK K
          have hkd1 := Lib.hid ((Keeps.refl [] wr).drew.of_nil.trans hk1)
          replace hR1 := Lib.hid hR1
          clear hk1
          (repeat (first | (apply Free.cw_pure rfl rfl; (intro w'; go_simp <;> exact rfl); go_frame) | (apply Free.cw_steady rfl rfl rfl; (intro w' hS; have q0 := Free.sx_cell hS d7 (fun j hp hT => Or.elim hT (fun h => by have := h.2; omega) (fun h => Or.elim h (fun h => by have := h.2; omega) (fun h => by obtain ⟨rfl, _⟩ := h; exact absurd hp (by decide +kernel)))); go_simp <;> exact rfl); go_frame) | (refine Free.cw_skip rfl ?_; go_frame)))
          refine Free.cw_loud rfl rfl (fun K hK => ?_)
          go_wp2_with fail
          refine (hR1.out.uint).mono ?_
          rintro e b2 ⟨rfl, hR2, hk2⟩
          rw [ex1.out]
          refine hK _ _ rfl (Free.KeepsP.of hk2 (fun b hb => by simp at hb; simp [hb])) ?_
          clear hK K
          have hkd2 := Lib.hid (hkd1.out.trans hk2)
          replace hR2 := Lib.hid hR2
          clear hk2 hR1 hkd1
          (repeat (first | (apply Free.cw_pure rfl rfl; (intro w'; go_simp <;> exact rfl); go_frame) | (apply Free.cw_steady rfl rfl rfl; (intro w' hS; have q0 := Free.sx_cell hS d7 (fun j hp hT => Or.elim hT (fun h => by have := h.2; omega) (fun h => Or.elim h (fun h => by have := h.2; omega) (fun h => by obtain ⟨rfl, _⟩ := h; exact absurd hp (by decide +kernel)))); go_simp <;> exact rfl); go_frame) | (refine Free.cw_skip rfl ?_; go_frame)))
          refine Free.cw_loud rfl rfl (fun K hK => ?_)
          go_wp2_with fail
          refine (hR2.out.int).mono ?_
          rintro e b3 ⟨rfl, hR3, hk3⟩
          rw [ex2.out]
          rw [es4.out] at hR3
          refine hK _ _ rfl (Free.KeepsP.of hk3 (fun b hb => by simp at hb; simp [hb])) ?_
          clear hK K
          have hkd3 := Lib.hid (hkd2.out.trans hk3)
          replace hR3 := Lib.hid hR3
          clear hk3 hR2 hkd2
          (repeat (first | (apply Free.cw_pure rfl rfl; (intro w'; go_simp <;> exact rfl); go_frame) | (apply Free.cw_steady rfl rfl rfl; (intro w' hS; have q0 := Free.sx_cell hS d7 (fun j hp hT => Or.elim hT (fun h => by have := h.2; omega) (fun h => Or.elim h (fun h => by have := h.2; omega) (fun h => by obtain ⟨rfl, _⟩ := h; exact absurd hp (by decide +kernel)))); go_simp <;> exact rfl); go_frame) | (refine Free.cw_skip rfl ?_; go_frame)))
          refine Free.cw_loud rfl rfl (fun K hK => ?_)
          go_wp2
          refine hK _ _ rfl (Free.KeepsP.alloc _ _ _) ?_
          clear hK K
          have hmade := (Sh.O.one shT b3 (x0, x1, x2) #[.int .i64 x0, .int .u64 x1, .int .i64 x2] tI 0 rfl (Nat.zero_le _)).r
          have hA9 : Keeps [] b3 (b3.alloc (.cells #[.int .i64 x0, .int .u64 x1, .int .i64 x2] tI)) := (Keeps.refl _ _).alloc _
          obtain ⟨bm2, ebm2⟩ : ∃ x, b3.heap.size = x := ⟨_, rfl⟩
          have hRA := hR3.out.keeps hA9
          have hkA := hkd3.out.trans hA9.of_nil
          rw [ebm2] at hmade ⊢
          generalize (b3.alloc (.cells #[.int .i64 x0, .int .u64 x1, .int .i64 x2] tI)) = bA at *
          have hOA := hO.out.keepS hkA (fun b hb e => by have := hO.out.ge b e; simp at hb; omega)
          have hbxA := hR'.out.blk hbx'.out hkA (by omega)
          have hzA := lt_of_blk hbxA
          replace hmade := Lib.hid hmade
          replace hRA := Lib.hid hRA
          replace hkA := Lib.hid hkA
          replace hOA := Lib.hid hOA
          replace hbxA := Lib.hid hbxA
          replace ebm2 := Lib.hid ebm2
          clear hA9 hR3 hkd3
          (repeat (first | (apply Free.cw_pure rfl rfl; (intro w'; go_simp <;> exact rfl); go_frame) | (apply Free.cw_steady rfl rfl rfl; (intro w' hS; have q0 := Free.sx_cell hS d7 (fun j hp hT => Or.elim hT (fun h => by have := h.2; omega) (fun h => Or.elim h (fun h => by have := h.2; omega) (fun h => by obtain ⟨rfl, _⟩ := h; exact absurd hp (by decide +kernel)))); go_simp <;> exact rfl); go_frame) | (refine Free.cw_skip rfl ?_; go_frame)))
          refine Free.cw_loud rfl rfl (fun K hK => ?_)
          refine Sh.owp_app shT (bx + 1) infoI rfl Try.underlying30 (.slice ai j ci) (.slice (some ⟨bm2, 0, none⟩) 1 1) L [(x0, x1, x2)] (.tmp 75) (.tmp 83) rfl rfl rfl hOA.out hmade.out (by rw [hLj.out]; simp; omega) (by omega) ?_
          intro v5 b5' hO5 hG5
          have hlen5 : (L ++ [(x0, x1, x2)]).length = j + 1 := by rw [List.length_append, hLj.out]; rfl
          refine hK _ _ rfl (Free.KeepsP.of hG5.keepsO (fun b hb => by have := hOA.out.ge b (by simpa using hb); simp; omega)) ?_
          clear hK K
          have hge5 := hOA.out.ge
          have hRB := hRA.out.moved hG5.keepsO (fun hb => by have := hge5 br (by simpa using hb); omega) (fun b hb cs e => by
            obtain ⟨cs', hc⟩ := hOA.out.tag b (by simpa using hb)
            rw [hc] at e
            simp only [Option.some.injEq, Obj.cells.injEq] at e
            exact absurd e.2.1 (by decide)) (fun b hb => by have := hge5 b (by simpa using hb); have := hR'.out.ge; omega)
          have hkB := (hkr.out.trans hkA.out).fresh hG5.keepsO (fun b hb => .inr (by have := hge5 b (by simpa using hb); have := ebx.out; omega))
          have hbxB := (hG5.keepsO.block bx hzA (fun hb => by have := hge5 bx (by simpa using hb); omega)).trans hbxA.out
          replace hRB := Lib.hid hRB
          replace hkB := Lib.hid hkB
          replace hbxB := Lib.hid hbxB
          replace hO5 := Lib.hid hO5
          obtain ⟨a5, c5, rfl⟩ := hO5.out.form
          rw [hlen5] at hO5 ⊢
          replace hlen5 := Lib.hid hlen5
          clear hge5 hG5 hRA hmade hOA hbxA hkA
          obtain ⟨t0, t1, t2, t3, t4, t5, t6, t7, tf, tl⟩ := cl8 hbxB.out
          (repeat (first | (apply Free.cw_pure rfl rfl; (intro w'; go_simp <;> exact rfl); go_frame) | (apply Free.cw_steady rfl rfl rfl; (intro w' hS; have q0 := Free.sx_cell hS d7 (fun j hp hT => Or.elim hT (fun h => by have := h.2; omega) (fun h => Or.elim h (fun h => by have := h.2; omega) (fun h => by obtain ⟨rfl, _⟩ := h; exact absurd hp (by decide +kernel)))); go_simp <;> exact rfl); go_frame) | (refine Free.cw_skip rfl ?_; go_frame)))
          refine Free.cw_loud rfl rfl (fun K hK => ?_)
          go_wp2
          refine hK _ _ rfl ((Free.KeepsP.setCell (S := fun b => b = bx) _ rfl _).mono (fun b hb => by simp [hb])) ?_
          clear hK K
          (repeat (first | (apply Free.cw_pure rfl rfl; (intro w'; go_simp <;> exact rfl); go_frame) | (apply Free.cw_steady rfl rfl rfl; (intro w' hS; have q0 := Free.sx_cell hS d7 (fun j hp hT => Or.elim hT (fun h => by have := h.2; omega) (fun h => Or.elim h (fun h => by have := h.2; omega) (fun h => by obtain ⟨rfl, _⟩ := h; exact absurd hp (by decide +kernel)))); go_simp <;> exact rfl); go_frame) | (refine Free.cw_skip rfl ?_; go_frame)))
          refine Free.cw_nil ?_
          have hst : Keeps [bx] b5' (b5'.setCell ⟨bx, 7, none⟩ (.slice a5 (j + 1) c5)) := (Keeps.refl [bx] b5').setCell (.inr (by simp)) _
          have hbxC := setCz hbxB.out 7 (.slice a5 (j + 1) c5)
          simp only [List.setIfInBounds_toArray, List.set_cons_succ, List.set_cons_zero] at hbxC
          have hkC := hkB.out.fresh hst (fun b hb => .inr (by have := ebx.out; simp at hb; omega))
          have hRC := hRB.out.moved hst (by simp; omega) (fun b hb cs e => by
            simp at hb
            subst hb
            rw [hbxB.out] at e
            simp only [Option.some.injEq, Obj.cells.injEq] at e
            exact absurd e.2.1 (by decide)) (fun b hb => by have := hR'.out.ge; simp at hb; omega)
          have hOC := hO5.out.keepS hst (fun b hb e => by have := hO5.out.ge b e; simp at hb; omega)
          have hzC : bx < (b5'.setCell ⟨bx, 7, none⟩ (.slice a5 (j + 1) c5)).heap.size := by simpa using tl
          clear hst
          clear d0 d1 d2 d3 d4 d5 d6 d7 df dl t0 t1 t2 t3 t4 t5 t6 t7 tf tl
          generalize (b5'.setCell ⟨bx, 7, none⟩ (.slice a5 (j + 1) c5)) = bC at *
          replace hbxC := Lib.hid hbxC
          replace hkC := Lib.hid hkC
          replace hRC := Lib.hid hRC
          replace hOC := Lib.hid hOC
          clear hbxB hkB hRB hO5 hO hR' hRd hbx' hkr
          go_wp2
          go_roundw
          case rel =>
            have hrx2 : rXs n sx [] = rXs (n - (j + 1)) s4 (L ++ [(x0, x1, x2)]) := by rw [hrx.out, show n - j = (n - (j + 1)) + 1 by omega, rXs_succ, hX1.out]
            have hj2 : j + 1 ≤ n := by omega
            exact ⟨j + 1, s4, L ++ [(x0, x1, x2)], .slice a5 (j + 1) c5, rfl, hj2, hlen5.out, hrx2, hRC.out, hkC.out, hbxC.out, hOC.out, hzC⟩
          case measure => simp [intOf]; omega
        case neg =>
          have hjn : j = n := by omega
          subst hjn
          have hrx2 : rAx M s = (L, s') := by unfold rAx; rw [en.out, esx.out, hrx.out, Nat.sub_self]; rfl
          have hA : rA M s = ⟨m0, o0, n0, p0, k0, r0, g0, L⟩ := by unfold rA; rw [hA0.out, hrx2]
          have hil : (rA M s).ins.length = j := by rw [hA]; exact hLj.out
          have hDr := hD.out.ref hR'.out hkr.out
          have haok := rA_ok M s (by omega)
          have hIn : InR wr ⟨m0, o0, n0, p0, k0, r0, g0, ai, j, ci⟩ (rA M s) := by rw [hA]; exact ⟨rfl, rfl, rfl, rfl, rfl, rfl, rfl, hO.out.r⟩
          have hbw : br + 1 ≤ wr.heap.size := by have := hDr.r.lt; omega
          have hc := answer_c wr (br + 1) bt bm vo vh (.slice none 0 0) t _ _ hDr.m hIn haok (fun b hb _ e => by
            have := hO.out.ge b e
            have := (hD.out.m.own_tag hb).2.1
            have := ebx.out
            omega) hbw (by have := hDik.out.hl; have := hhst.out; omega) (by have := hqi.out; omega)
          have hstp1 : dA M told X (k + 1) = dS M told (s, t, b) := by show (dA M told X k).bind _ = _; rw [hdk.out]; rfl
          have hDi2 := fun hi' => hDik.out.answer (a := rA M s) hi' (by omega)
          unfold dS at hstp1
          simp only [hrx2] at hstp1
          obtain ⟨⟨t2, r2⟩, er⟩ : ∃ x, t.answer (rA M s) = x := ⟨_, rfl⟩
          rw [er] at hc hstp1 hDi2
          simp only at hstp1 hDi2
          obtain ⟨d0, d1, d2, d3, d4, d5, d6, d7, df, dl⟩ := cl8 hbx'.out
          replace hc := Lib.hid hc
          replace hDr := Lib.hid hDr
          replace hstp1 := Lib.hid hstp1
          replace hDi2 := Lib.hid hDi2
          clear er hIn haok hil hA hrx2
          go_wp2_with fail
          refine hc.out.mono ?_
          rintro e w9 ⟨vo', vh', rfl, hT9, hM9⟩
          have hD9 := Lib.hid (hDr.out.mv hT9 hM9)
          have hDi9 := Lib.hid (hDi2.out hT9.inv)
          clear hc hDr hDi2 hM9 d0 d1 d2 d3 d4 d5 d6 d7 df dl
          by_cases hr0 : r2 = 0
          case neg =>
            have hstp2 := hstp1.out
            rw [if_pos hr0] at hstp2
            have hdn : dec l = none := by rw [hdec.out, dA_none hstp2 N (by omega)]; rfl
            have hrb : (r2 != 0) = true := by simpa using hr0
            replace hdn := Lib.hid hdn
            replace hr0 := Lib.hid hr0
            clear hstp2 hT9
            go_wp2
            go_ret2
            exact ⟨hD9.out.r.k, .inl ⟨hdn.out, rfl⟩⟩
          case pos =>
            subst hr0
            have hstp2 := hstp1.out
            rw [if_neg (by simp)] at hstp2
            obtain ⟨sb, hsb⟩ : ∃ x, decide (t2.state = 0) = x := ⟨_, rfl⟩
            obtain ⟨tb, htb⟩ : ∃ x, decide (told = t2.qs.length) = x := ⟨_, rfl⟩
            have hask : askd told t2 = (sb && tb) := by unfold askd; rw [hsb, htb]
            rw [hask] at hstp2
            obtain ⟨LO, hLO⟩ : ∃ n, t2.op.length = n := ⟨_, rfl⟩
            have hLO2 : t2.qs.length = LO := by rw [← hLO]; simp [Tr.op]
            obtain ⟨_, _, _, _, _, g5, _, _, _, g9, _⟩ := hT9.cells
            obtain ⟨ao9, co9, evo⟩ := hT9.op.form
            rw [hLO] at evo
            subst evo
            have hsb2 : (t2.state == 0) = sb := by rw [← hsb, Bool.eq_iff_iff]; simp
            have htb2 : ((told : Int) == (LO : Int)) = tb := by rw [← htb, Bool.eq_iff_iff, hLO2]; simp; omega
            have hlt9 := hT9.lt
            replace hsb := Lib.hid hsb
            replace htb := Lib.hid htb
            replace hstp2 := Lib.hid hstp2
            replace hLO := Lib.hid hLO
            replace hLO2 := Lib.hid hLO2
            clear hask hT9 hbx' hO
            cases b with
            | true =>
              go_wp2
              go_roundw
              case rel => exact ⟨k + 1, s', t2, true, _, vh', rfl, rfl, by omega, hstp2.out, hD9.out, hDi9.out⟩
              case measure => simp [intOf]; omega
            | false =>
              cases sb with
              | true =>
                go_wp2
                go_roundw
                case rel => exact ⟨k + 1, s', t2, tb, _, vh', rfl, rfl, by omega, by rw [hstp2.out]; simp, hD9.out, hDi9.out⟩
                case measure => simp [intOf]; omega
              | false =>
                go_wp2
                go_roundw
                case rel => exact ⟨k + 1, s', t2, false, _, vh', rfl, rfl, by omega, by rw [hstp2.out]; simp, hD9.out, hDi9.out⟩
                case measure => simp [intOf]; omega
    case neg =>
      have hkN : k = N := by omega
      subst hkN
      have hqN := hfin.out s t b hdk.out
      have hdecG : dec l = dG l told (s, t, b) := by rw [hdec.out, hdk.out]; rfl
      unfold dG at hdecG
      simp only at hdecG
      obtain ⟨gu, egu⟩ : ∃ x, (rU s).1 = x := ⟨_, rfl⟩
      obtain ⟨sg, esg⟩ : ∃ x, (rU s).2 = x := ⟨_, rfl⟩
      obtain ⟨G, eG⟩ : ∃ x, min gu 1024 = x := ⟨_, rfl⟩
      have hgul := rU_lt s
      rw [egu] at hgul
      rw [egu, esg, eG] at hdecG
      have htg : (min (gu : Int) 1024) = G := by rw [← eG]; omega
      have hGl : G ≤ 1024 := by omega
      replace hdecG := Lib.hid hdecG
      replace egu := Lib.hid egu
      replace esg := Lib.hid esg
      replace eG := Lib.hid eG
      replace hqN := Lib.hid hqN
      clear hdec hdk hstp hfin hhX hI0 hhT hhN him his hst0 hst1 eim eis es0 es1 es2 etu eX eN eT hTqs hhTo hz0
      go_wp2_with fail
      refine (hD.out.uint).mono ?_
      rintro e wa ⟨rfl, hDa, hka⟩
      rw [egu.out]
      rw [esg.out] at hDa
      replace hDa := Lib.hid hDa
      clear hka hD
      go_wp2
      go_loopw [112] (fun iv wr => ∃ (i : Nat) (t' : Tr) (vg' : Value), iv = .int .u64 i ∧ i ≤ G ∧ gA t i = some t' ∧ DM w wr br bt bm vo vh vg' sg t' ∧ t'.Di k ∧ t'.qs.length ≤ 1000) (fun iv _ => G - (intOf iv).toNat)
      case atStart => exact ⟨0, t, _, rfl, by omega, rfl, hDa.out, hDik.out, hqN.out⟩
      case round =>
        obtain ⟨i, t', vg', rfl, hi, hgA, hDr, hDir, hqr⟩ := hrel
        replace hgA := Lib.hid hgA
        replace hDr := Lib.hid hDr
        replace hDir := Lib.hid hDir
        clear hDa hDik hqN
        by_cases hlt2 : i < G
        case pos =>
          have hcl := hDr.out.claim hqr hDir.out.dc
          have hstp1 : gA t (i + 1) = gS t' := by show (gA t i).bind _ = _; rw [hgA.out]; rfl
          unfold gS at hstp1
          replace hcl := Lib.hid hcl
          replace hstp1 := Lib.hid hstp1
          go_wp2_with fail
          refine hcl.out.mono ?_
          rintro e wb ⟨⟨x0, x1, ⟨a1, a2, a3⟩, ⟨b1, b2, b3⟩, ⟨c1, c2, c3⟩⟩, rfl, hxm, hkb⟩
          simp only [clV, slv]
          simp only at hxm
          have hDb := hDr.out.keeps hkb
          by_cases hs : t'.state = 1
          case neg =>
            have hsb : (t'.state == 1) = false := by simpa using hs
            have hstp2 := hstp1.out
            rw [if_neg hs] at hstp2
            have hdn : dec l = none := by rw [hdecG.out, gA_none hstp2 G (by omega)]; rfl
            replace hdn := Lib.hid hdn
            replace hs := Lib.hid hs
            replace hDb := Lib.hid hDb
            replace hxm := Lib.hid hxm
            replace hkb := Lib.hid hkb
            rw [hsb]
            clear hstp2 hsb
            go_wp2
            go_ret2
            exact ⟨hDb.out.r.k.alloc _, .inl ⟨hdn.out, rfl⟩⟩
          case pos =>
            have hsb : (t'.state == 1) = true := by simpa using hs
            have hx := hxm hs
            subst hx
            have hstp2 := hstp1.out
            rw [if_pos hs] at hstp2
            have hA9 : Keeps [] wb (wb.alloc (.cells #[.int .i64 t'.pm, .int .i64 x1, .slice a1 a2 a3, .slice b1 b2 b3, .slice c1 c2 c3] tC)) := (Keeps.refl _ _).alloc _
            have hDc := (hDb.keeps hA9).agree hqr hDir.out.ag hDir.out.dc
            have hDi2 := hDir.out.agree hs hDr.out.m.inv hqr
            have hq2 : (t'.agreeT t'.pm).1.qs.length ≤ 1000 := by rw [hDir.out.dc.agree_eq hs]; exact hqr
            obtain ⟨t2, et2⟩ : ∃ x, (t'.agreeT t'.pm).1 = x := ⟨_, rfl⟩
            rw [et2] at hDc hDi2 hq2 hstp2
            replace hDc := Lib.hid hDc
            replace hDi2 := Lib.hid hDi2
            replace hstp2 := Lib.hid hstp2
            replace hs := Lib.hid hs
            replace et2 := Lib.hid et2
            rw [hsb]
            clear hxm hkb hA9 hDb hsb hstp1 hcl
            go_wp2_with fail
            refine hDc.out.mono ?_
            rintro e wc ⟨vg2, r, rfl, hD2⟩
            replace hD2 := Lib.hid hD2
            clear hDc
            go_wp2
            go_roundw
            case rel =>
              have hi2 : i + 1 ≤ G := by omega
              exact ⟨i + 1, t2, vg2, rfl, hi2, hstp2.out, hD2.out, hDi2.out, hq2⟩
            case measure => simp [intOf]; omega
        case neg =>
          have hiG : i = G := by omega
          subst hiG
          have hdecB : dec l = dB l told b sg t' := by rw [hdecG.out, hgA.out]; rfl
          unfold dB at hdecB
          obtain ⟨rb, erb⟩ : ∃ x, (rB sg).1 = x := ⟨_, rfl⟩
          obtain ⟨sb, esb⟩ : ∃ x, (rB sg).2 = x := ⟨_, rfl⟩
          rw [erb, esb] at hdecB
          replace hdecB := Lib.hid hdecB
          replace erb := Lib.hid erb
          replace esb := Lib.hid esb
          clear hdecG hgA hlt2 htg eG hi
          go_wp2_with fail
          refine (hDr.out.bool).mono ?_
          rintro e wb ⟨rfl, hDb, hkb⟩
          rw [erb.out]
          rw [esb.out] at hDb
          replace hDb := Lib.hid hDb
          clear hkb hDr
          go_upto_if 127 with fail
          go_cut [] from 10 to 156 (fun wx => ∃ t2 vg2, Hid (rfS rb t' = some t2) ∧ Hid (DM w wx br bt bm vo vh vg2 sb t2) ∧ Hid (t2.hist = t'.hist) ∧ Hid t2.Num ∧ t2.ag.length ≤ 1000 ∧ Hid (0 ≤ t2.state ∧ t2.state ≤ 4))
          case first =>
            cases rb with
            | false =>
              go_wp2
              go_meet
              case rel => exact ⟨t', vg', Lib.hid rfl, hDb, Lib.hid rfl, Lib.hid hDir.out.nm, hDir.out.ag, Lib.hid hDir.out.st⟩
            | true =>
              have hcl := hDb.out.claim hqr hDir.out.dc
              replace hcl := Lib.hid hcl
              go_wp2_with fail
              refine hcl.out.mono ?_
              rintro e wd ⟨⟨x0, x1, ⟨a1, a2, a3⟩, ⟨b1, b2, b3⟩, ⟨c1, c2, c3⟩⟩, rfl, hxm, hkb⟩
              simp only [clV, slv]
              simp only at hxm
              have hA9 : Keeps [] wd (wd.alloc (.cells #[.int .i64 x0, .int .i64 x1, .slice a1 a2 a3, .slice b1 b2 b3, .slice c1 c2 c3] tC)) := (Keeps.refl _ _).alloc _
              have hrc := ((hDb.out.keeps hkb).keeps hA9).refuse hqr hDir.out.dc x0
              by_cases hs : t'.state = 1
              case neg =>
                have hsb : (t'.state == 1) = false := by simpa using hs
                have hre : t'.refuseT x0 = (t', 9) := by unfold Tr.refuseT; rw [if_pos hs]
                rw [hre] at hrc
                have hdn : dec l = none := by rw [hdecB.out]; unfold rfS; rw [if_pos rfl, if_neg hs]; rfl
                rw [hsb]
                replace hdn := Lib.hid hdn
                replace hs := Lib.hid hs
                replace hrc := Lib.hid hrc
                replace hxm := Lib.hid hxm
                replace hkb := Lib.hid hkb
                clear hsb hre hA9 hcl
                go_wp2_with fail
                refine hrc.out.mono ?_
                rintro e we ⟨rfl, hDe⟩
                replace hDe := Lib.hid hDe
                clear hrc
                go_wp2
                go_ret2
                exact ⟨hDe.out.r.k, .inl ⟨hdn.out, rfl⟩⟩
              case pos =>
                have hsb : (t'.state == 1) = true := by simpa using hs
                have hx := hxm hs
                subst hx
                obtain ⟨q1, q2, q3, q4, q6⟩ := hDir.out.refuse hs
                have hrs : rfS true t' = some (t'.refuseT t'.pm).1 := by unfold rfS; rw [if_pos rfl, if_pos hs]
                rw [q1] at hrc
                have q5 : (t'.refuseT t'.pm).1.ag.length ≤ 1000 := by rw [q4]; exact hDir.out.ag
                obtain ⟨t2, et2⟩ : ∃ x, (t'.refuseT t'.pm).1 = x := ⟨_, rfl⟩
                rw [et2] at hrc hrs q2 q3 q5 q6
                rw [hsb]
                replace hrs := Lib.hid hrs
                replace hs := Lib.hid hs
                replace hrc := Lib.hid hrc
                replace hkb := Lib.hid hkb
                have hq2 := Lib.hid q2
                have hq3 := Lib.hid q3
                have hq5 := Lib.hid q5
                have hq6 := Lib.hid (show 0 ≤ t2.state ∧ t2.state ≤ 4 by rw [q6]; decide)
                replace et2 := Lib.hid et2
                clear hsb hA9 hcl hxm q1 q2 q3 q4 q5 q6
                go_wp2_with fail
                refine hrc.out.mono ?_
                rintro e we ⟨rfl, hDe⟩
                replace hDe := Lib.hid hDe
                clear hrc
                go_wp2
                go_meet
                case rel => exact ⟨t2, vg', hrs, hDe, hq2, hq3, hq5.out, hq6⟩
          case rest =>
          obtain ⟨t2, vg2, hrf, hD2, hh2, hn2, ha2, hs2⟩ := hcut
          have hdecE : dec l = dE l told b sb t2 := by rw [hdecB.out, hrf.out]; rfl
          unfold dE at hdecE
          obtain ⟨c20, c21, c22, c23, c24, c25, c26, _⟩ := hD2.out.m.cells
          have hfr := hD2.out.m.free
          have hlt2 := hD2.out.m.lt
          have hD3 := hD2.out.told told
          have hh3 : ({ t2 with told := (told : Int) } : Tr).hist.length ≤ 1000 := by show t2.hist.length ≤ 1000; rw [hh2.out]; have := hDir.out.hl; have := hhst.out; omega
          have hi3 : ∀ a ∈ ({ t2 with told := (told : Int) } : Tr).hist, a.ins.length ≤ 1000 := fun a ha => by
            have ha' : a ∈ t2.hist := ha
            rw [hh2.out] at ha'
            exact hDir.out.hi a ha'
          have hn3 : ({ t2 with told := (told : Int) } : Tr).Num := ⟨hn2.out.im, hn2.out.is, hn2.out.s0, hn2.out.s1, hn2.out.s2⟩
          have ht3 : ({ t2 with told := (told : Int) } : Tr).told = (told : Nat) := rfl
          have ha3 : ({ t2 with told := (told : Int) } : Tr).ag.length ≤ 100000 := by show t2.ag.length ≤ 100000; omega
          have hE3 : ({ t2 with told := (told : Int) } : Tr).Enc := ⟨hn3, hh3, hi3, ha2, ⟨told, rfl, htold⟩, hs2.out⟩
          generalize ({ t2 with told := (told : Int) } : Tr) = t3 at *
          replace hE3 := Lib.hid hE3
          obtain ⟨E, eE⟩ : ∃ x, doneE sb.1 sb.2 = x := ⟨_, rfl⟩
          rw [eE] at hdecE
          replace hdecE := Lib.hid hdecE
          replace hD3 := Lib.hid hD3
          replace hh3 := Lib.hid hh3
          replace hi3 := Lib.hid hi3
          replace hn3 := Lib.hid hn3
          replace ht3 := Lib.hid ht3
          replace ha3 := Lib.hid ha3
          replace eE := Lib.hid eE
          clear hdecB hrf hh2 hn2
          go_wp2_with fail
          refine (doneS_c _ br sb hD3.out.r.r).mono ?_
          rintro e W3 ⟨rfl, rfl⟩
          rw [eE.out]
          clear c20 c21 c22 c23 c24 c25 c26 hfr hlt2 hD2
          generalize (wc.setCell ⟨bt, 6, none⟩ (.int .i64 (told : Int))) = W3 at *
          by_cases hE : E = 0
          case neg =>
            have hEb : (E != 0) = true := by simpa using hE
            have hdn := hdecE.out
            rw [if_neg (fun h => hE h.1)] at hdn
            replace hdn := Lib.hid hdn
            replace hE := Lib.hid hE
            go_wp2
            go_ret2
            exact ⟨hD3.out.r.k, .inl ⟨hdn.out, rfl⟩⟩
          case pos =>
            subst hE
            cases b with
            | false =>
              have hdn := hdecE.out
              rw [if_neg (fun h => Bool.false_ne_true h.2.1)] at hdn
              replace hdn := Lib.hid hdn
              go_wp2
              go_ret2
              exact ⟨hD3.out.r.k, .inl ⟨hdn.out, rfl⟩⟩
            | true =>
              have henc := encode_c W3 (br + 1) bt bm vo vh vg2 t3 told hD3.out.m hn3.out ht3.out (by omega) hh3.out hi3.out ha3.out
              replace henc := Lib.hid henc
              go_wp2_with fail
              refine henc.out.mono ?_
              rintro e W4 ⟨v4, rfl, hB4, hk4⟩
              have heq := beq_c W4 v4 (.slice a0 M c0) (encT t3) l hB4.slB (h.out.keeps (hD3.out.r.k.trans hk4))
              have hD4 := Lib.hid (hD3.out.keeps hk4)
              obtain ⟨a4, c4, rfl⟩ := hB4.slB.form
              by_cases hq : encT t3 = l
              case pos =>
                rw [decide_eq_true hq] at heq
                have hds := hdecE.out
                rw [if_pos (by simp [hq])] at hds
                replace hds := Lib.hid hds
                replace heq := Lib.hid heq
                replace hq := Lib.hid hq
                clear hB4 hk4 henc hD3
                go_wp2_with fail
                refine heq.out.mono ?_
                rintro e W5 ⟨rfl, rfl⟩
                clear heq
                go_wp2
                go_ret2
                exact ⟨hD4.out.r.k, .inr ⟨t3, bt, bm, vo, vh, vg2, hds.out, rfl, hD4.out.m.lowD (by have := hD4.out.r.ge; omega), hE3.out⟩⟩
              case neg =>
                rw [decide_eq_false hq] at heq
                have hdn := hdecE.out
                rw [if_neg (fun h => hq h.2.2)] at hdn
                replace hdn := Lib.hid hdn
                replace heq := Lib.hid heq
                replace hq := Lib.hid hq
                clear hB4 hk4 henc hD3
                go_wp2_with fail
                refine heq.out.mono ?_
                rintro e W5 ⟨rfl, rfl⟩
                clear heq
                go_wp2
                go_ret2
                exact ⟨hD4.out.r.k, .inl ⟨hdn.out, rfl⟩⟩
end Go.Proofs.Ythfdngjbcgkkfaa

namespace Go.Proofs.Ythfdngjbcgkkfaa
open Go.RowKit
def aw0 : Tr := Tr.new 1 1 (2, 5, 0)
def aw1 : Tr := aw0.queries.1
def aa1 : Ans := ⟨1, 2, 5, 3, true, false, 2, [(2, 9, 4)]⟩
def aa2 : Ans := ⟨2, 1, 9, 7, true, false, 6, [(1, 5, 8)]⟩
def aw2 : Tr := (aw1.answer aa1).1
def aw3 : Tr := (aw2.answer aa2).1
def awW : List PCl := [⟨1, 3, [(2, 5, 8)], [(2, 9, 6)], []⟩, ⟨2, 7, [(1, 9, 4)], [(1, 5, 2)], []⟩]
theorem aw_q : aw0.queries.2 = [(1, 5, 2)] := by decide +kernel
theorem aw_r1 : (aw1.answer aa1).2 = 0 := by decide +kernel
theorem aw_r2 : (aw2.answer aa2).2 = 0 := by decide +kernel
theorem aw_s : aw3.state = 1 := by decide +kernel
theorem aw_l : aw1.hist.length ≤ 100000 ∧ aw1.qs.length + aa1.ins.length ≤ 1000 ∧ aw2.hist.length ≤ 100000 ∧ aw2.qs.length + aa2.ins.length ≤ 1000 ∧ aw3.qs.length ≤ 1000 := by decide +kernel
theorem aw_rec : aw3.rec'.map (·.2) = [aa1, aa2] := by decide +kernel
theorem aw_raw : rawOf aw3 (outsOf [aa1, aa2]) [aa1, aa2] = awW := by decide +kernel
theorem aw_sorted : SortedA aw3 [aa1, aa2] := ⟨by rw [aw_rec], by simp [qlt, Ans.q, aa1, aa2]⟩
theorem aw_ok1 : aa1.Ok := ⟨⟨by decide +kernel, by decide +kernel, by decide +kernel⟩, by decide +kernel, by decide +kernel, by decide +kernel, by decide +kernel⟩
theorem aw_ok2 : aa2.Ok := ⟨⟨by decide +kernel, by decide +kernel, by decide +kernel⟩, by decide +kernel, by decide +kernel, by decide +kernel, by decide +kernel⟩
theorem aw_claims {P : List PCl} {Y : List Ans} (hY : SortedA aw3 Y) (hP : ClaimsP aw3 Y P) : P = awW := by
  obtain rfl := hY.uniq aw_sorted
  unfold ClaimsP at hP
  rw [aw_raw] at hP
  obtain ⟨hl, h⟩ := hP
  have key : ∀ (p q : PCl), p.m = q.m ∧ p.ep = q.ep ∧ (∀ j, j < 3 → (p.at j).Perm (q.at j) ∧ (p.at j).Pairwise (fun x y => ¬ tlt y x)) → (∀ j, j < 3 → (q.at j).length ≤ 1) → p = q := by
    intro p q hpq hq
    obtain ⟨a, b, c, d, e⟩ := p
    obtain ⟨a', b', c', d', e'⟩ := q
    obtain ⟨h1, h2, h3⟩ := hpq
    have one : ∀ {x y : List T3}, x.Perm y → y.length ≤ 1 → x = y := by
      intro x y hp hy
      match y, hy with
      | [], _ => exact List.perm_nil.1 hp
      | [z], _ => exact List.perm_singleton.1 hp
    have e0 := one (h3 0 (by omega)).1 (hq 0 (by omega))
    have e1 := one (h3 1 (by omega)).1 (hq 1 (by omega))
    have e2 := one (h3 2 (by omega)).1 (hq 2 (by omega))
    simp only [PCl.at] at h1 h2 e0 e1 e2
    subst h1 h2 e0 e1 e2
    rfl
  refine List.ext_getElem hl (fun k h1 h2 => key _ _ (h k h1 h2) (fun j hj => ?_))
  have hk : k < 2 := h2
  match k, hk, j, hj with
  | 0, _, 0, _ => simp [awW, PCl.at]
  | 0, _, 1, _ => simp [awW, PCl.at]
  | 0, _, 2, _ => simp [awW, PCl.at]
  | 1, _, 0, _ => simp [awW, PCl.at]
  | 1, _, 1, _ => simp [awW, PCl.at]
  | 1, _, 2, _ => simp [awW, PCl.at]
theorem one_need (w : World) (b : Nat) (x : Int) (y : Nat) (yi : Int) (z : Int) (hy : (y : Int) = yi) (hb : w.heap.size = b) : shT.R (w.alloc (.cells #[.int .i64 x, .int .u64 yi, .int .i64 z] tN)) (.slice (some ⟨b, 0, none⟩) 1 1) [(x, y, z)] := by
  subst hb hy
  exact (Sh.O.one shT w (x, y, z) #[.int .i64 x, .int .u64 y, .int .i64 z] tN 0 rfl (by omega)).r
theorem want_lc (w : World) : LC (((((w.alloc (.cells #[.int .i64 2, .int .u64 5, .int .i64 8] tN)).alloc (.cells #[.int .i64 2, .int .u64 9, .int .i64 6] tN)).alloc (.cells #[.int .i64 1, .int .u64 9, .int .i64 4] tN)).alloc (.cells #[.int .i64 1, .int .u64 5, .int .i64 2] tN)).alloc
      (.cells #[.int .i64 1, .int .i64 3, .slice (some ⟨w.heap.size, 0, none⟩) 1 1, .slice (some ⟨w.heap.size + 1, 0, none⟩) 1 1, .slice none 0 0, .int .i64 2, .int .i64 7, .slice (some ⟨w.heap.size + 1 + 1, 0, none⟩) 1 1, .slice (some ⟨w.heap.size + 1 + 1 + 1, 0, none⟩) 1 1, .slice none 0 0] tC))
    (.slice (some ⟨w.heap.size + 1 + 1 + 1 + 1, 0, none⟩) 2 2) awW := by
  have r1 := one_need w _ 2 5 5 8 rfl rfl
  have r2 := one_need (w.alloc (.cells #[.int .i64 2, .int .u64 5, .int .i64 8] tN)) (w.heap.size + 1) 2 9 9 6 rfl (by simp)
  have r3 := one_need ((w.alloc (.cells #[.int .i64 2, .int .u64 5, .int .i64 8] tN)).alloc (.cells #[.int .i64 2, .int .u64 9, .int .i64 6] tN)) (w.heap.size + 1 + 1) 1 9 9 4 rfl (by simp)
  have r4 := one_need (((w.alloc (.cells #[.int .i64 2, .int .u64 5, .int .i64 8] tN)).alloc (.cells #[.int .i64 2, .int .u64 9, .int .i64 6] tN)).alloc (.cells #[.int .i64 1, .int .u64 9, .int .i64 4] tN)) (w.heap.size + 1 + 1 + 1) 1 5 5 2 rfl (by simp)
  have hsz : ((((w.alloc (.cells #[.int .i64 2, .int .u64 5, .int .i64 8] tN)).alloc (.cells #[.int .i64 2, .int .u64 9, .int .i64 6] tN)).alloc (.cells #[.int .i64 1, .int .u64 9, .int .i64 4] tN)).alloc (.cells #[.int .i64 1, .int .u64 5, .int .i64 2] tN)).heap.size = w.heap.size + 1 + 1 + 1 + 1 := by simp
  have k1 := fun (o : Obj) (w : World) => (Keeps.refl [] w).alloc o
  have q1 := (((r1.keeps (k1 (.cells #[.int .i64 2, .int .u64 9, .int .i64 6] tN) _)).keeps (k1 (.cells #[.int .i64 1, .int .u64 9, .int .i64 4] tN) _)).keeps (k1 (.cells #[.int .i64 1, .int .u64 5, .int .i64 2] tN) _))
  have q2 := ((r2.keeps (k1 (.cells #[.int .i64 1, .int .u64 9, .int .i64 4] tN) _)).keeps (k1 (.cells #[.int .i64 1, .int .u64 5, .int .i64 2] tN) _))
  have q3 := (r3.keeps (k1 (.cells #[.int .i64 1, .int .u64 5, .int .i64 2] tN) _))
  generalize ((((w.alloc (.cells #[.int .i64 2, .int .u64 5, .int .i64 8] tN)).alloc (.cells #[.int .i64 2, .int .u64 9, .int .i64 6] tN)).alloc (.cells #[.int .i64 1, .int .u64 9, .int .i64 4] tN)).alloc (.cells #[.int .i64 1, .int .u64 5, .int .i64 2] tN)) = W at *
  rw [← hsz]
  have hR := Sh.R.made shC W [⟨1, 3, (some ⟨w.heap.size, 0, none⟩, 1, 1), (some ⟨w.heap.size + 1, 0, none⟩, 1, 1), nilT⟩, ⟨2, 7, (some ⟨w.heap.size + 1 + 1, 0, none⟩, 1, 1), (some ⟨w.heap.size + 1 + 1 + 1, 0, none⟩, 1, 1), nilT⟩] #[.int .i64 1, .int .i64 3, .slice (some ⟨w.heap.size, 0, none⟩) 1 1, .slice (some ⟨w.heap.size + 1, 0, none⟩) 1 1, .slice none 0 0, .int .i64 2, .int .i64 7, .slice (some ⟨w.heap.size + 1 + 1, 0, none⟩) 1 1, .slice (some ⟨w.heap.size + 1 + 1 + 1, 0, none⟩) 1 1, .slice none 0 0] tC rfl (by simp [maxLen]) 2 rfl
  refine ⟨_, hR, rfl, fun k x p hx hp => ?_⟩
  match k with
  | 0 =>
    simp [awW] at hx hp
    subst hx hp
    exact ⟨rfl, rfl, q1.keeps (k1 _ _), q2.keeps (k1 _ _), Sh.R.nil _ _⟩
  | 1 =>
    simp [awW] at hx hp
    subst hx hp
    exact ⟨rfl, rfl, q3.keeps (k1 _ _), r4.keeps (k1 _ _), Sh.R.nil _ _⟩
  | k + 2 => simp [awW] at hp
end Go.Proofs.Ythfdngjbcgkkfaa

namespace Go.Proofs.Ythfdngjbcgkkfaa
open Go.RowKit

def nmS (i : Int) : ByteArray := if i = 0 then ⟨#[97, 115, 107, 105, 110, 103]⟩ else if i = 1 then ⟨#[99, 111, 110, 102, 105, 114, 109, 105, 110, 103]⟩ else if i = 2 then ⟨#[97, 103, 114, 101, 101, 100]⟩ else if i = 3 then ⟨#[108, 105, 118, 101]⟩ else if i = 4 then ⟨#[117, 110, 100, 101, 99, 105, 100, 101, 100]⟩ else ⟨#[]⟩
set_option maxRecDepth 100000 in
set_option maxHeartbeats 2000000 in
theorem stateName_c (w : World) (i : Int) (hi : W64 i) :
    Calls Try.prog 16 #[.int .i64 i] w fun e w' => e = .returned (.string (nmS i)) ∧ Keeps [] w w' := by
  obtain ⟨rs, hrs⟩ : ∃ s, nmS i = s := ⟨_, rfl⟩
  rw [hrs]
  replace hrs := Lib.hid hrs
  have hk := (Keeps.refl [] w).alloc (.cells #[.string ⟨#[97, 115, 107, 105, 110, 103]⟩, .string ⟨#[99, 111, 110, 102, 105, 114, 109, 105, 110, 103]⟩, .string ⟨#[97, 103, 114, 101, 101, 100]⟩, .string ⟨#[108, 105, 118, 101]⟩, .string ⟨#[117, 110, 100, 101, 99, 105, 100, 101, 100]⟩] 85)
  rw [w64_iff] at hi
  by_cases h0 : i < 0
  · have hr : nmS i = ⟨#[]⟩ := by unfold nmS; rw [if_neg (by omega), if_neg (by omega), if_neg (by omega), if_neg (by omega), if_neg (by omega)]
    rw [hrs.out] at hr
    have b0 : decide (i < 0) = true := by simpa using h0
    replace hr := Lib.hid hr
    go_enter Try.func16, Try.ntmps16
    go_wp2
    go_ret
    exact ⟨by rw [hr.out]; rfl, hk⟩
  · by_cases h5 : 5 ≤ i
    · have hr : nmS i = ⟨#[]⟩ := by unfold nmS; rw [if_neg (by omega), if_neg (by omega), if_neg (by omega), if_neg (by omega), if_neg (by omega)]
      rw [hrs.out] at hr
      replace hr := Lib.hid hr
      have b0 : decide (i < 0) = false := by simpa using h0
      have b1 : decide (5 ≤ i) = true := by simpa using h5
      go_enter Try.func16, Try.ntmps16
      go_wp2
      go_ret
      exact ⟨by rw [hr.out]; rfl, hk⟩
    · have hc : i = 0 ∨ i = 1 ∨ i = 2 ∨ i = 3 ∨ i = 4 := by omega
      rcases hc with rfl | rfl | rfl | rfl | rfl
      all_goals
        have hr := hrs.out
        replace hr := Lib.hid hr
        clear hi h0 h5 hrs
        go_enter Try.func16, Try.ntmps16
        go_wp2
        go_ret
        exact ⟨by rw [← hr.out]; rfl, hk⟩
end Go.Proofs.Ythfdngjbcgkkfaa

namespace Go.Proofs.Ythfdngjbcgkkfaa
open Go.RowKit
set_option maxRecDepth 100000 in
set_option maxHeartbeats 10000000 in
theorem awake_c (w : World) : Calls Try.prog 9 #[] w fun e w' => e = .returned (.bool true) ∧ Keeps [] w w' := by
  go_enter Try.func9, Try.ntmps9
  go_wp2_with fail
  refine (new_c w 1 1 (2, 5, 0) (by decide +kernel) (by decide +kernel) (by decide +kernel)).mono ?_
  rintro e w1 ⟨bt, bm, vo, rfl, hT, hk1⟩
  have hq := queries_c w1 _ bt bm vo _ _ _ 0 hT rfl (by simp [Tr.new]) (by simp [Tr.new])
  have hB1 := hT.bB.1
  replace hq := Lib.hid hq
  replace hT := Lib.hid hT
  replace hk1 := Lib.hid hk1
  go_wp2_with fail
  refine hq.out.mono ?_
  rintro e w2 ⟨v, rfl, hO, hT2, hmv2⟩
  rw [show (Tr.new 1 1 (2, 5, 0)).queries.2 = [(1, 5, 2)] from aw_q] at hO
  replace hT2 : TrM w2 w.heap.size bt bm vo (.slice none 0 0) (.slice none 0 0) aw1 := hT2
  have hk2 : Keeps [] w w2 := hk1.out.fresh hmv2.k (fun b hb => .inr (hT.out.own_tag hb).1)
  obtain ⟨g, c, rfl, _, _⟩ := hO.form1 (by decide)
  obtain ⟨g', o', c', e1, he⟩ := hO.r.elem (k := 0) (by decide)
  cases e1
  have f0 := he 0 _ rfl
  have f1 := he 1 _ rfl
  have f2 := he 2 _ rfl
  simp [shT] at f0 f1 f2
  have hne := fun w => neN w (1, 5, 2) (1, 5, 2)
  simp only [ne_eq, not_true_eq_false, decide_false, tV] at hne
  have hI := Sh.O.one shT w2 (2, 9, 4) #[.int .i64 2, .int .u64 9, .int .i64 4] tI 0 rfl (by omega)
  have hkI := (Keeps.refl [] w2).alloc (.cells #[.int .i64 2, .int .u64 9, .int .i64 4] tI)
  have hT2' := hT2.keeps hkI
  have hans := answer_c (w2.alloc (.cells #[.int .i64 2, .int .u64 9, .int .i64 4] tI)) w.heap.size bt bm vo _ _ aw1 ⟨1, 2, 5, 3, true, false, 2, some ⟨w2.heap.size, 0, none⟩, 1, 1⟩ aa1 hT2' ⟨rfl, rfl, rfl, rfl, rfl, rfl, rfl, hI.r⟩ aw_ok1 (fun b hb _ e => by
    have h1 := (hT2.own_tag hb).2.1
    simp [AnV.v, Value.ownBlock] at e
    omega) (by have := hk2.size; simp; omega) aw_l.1 aw_l.2.1
  simp only [aV, AnV.v] at hans
  have hkT := hk2.trans hkI
  replace hans := Lib.hid hans
  replace hT2' := Lib.hid hT2'
  replace hkT := Lib.hid hkT
  clear hO hT2 hmv2 hk2 he hI hkI hT hk1 hq
  go_wp2_with fail
  refine hans.out.mono ?_
  rintro e w3 ⟨vo3, vh3, rfl, hT3, hmv3⟩
  rw [aw_r1]
  replace hT3 : TrM w3 w.heap.size bt bm vo3 vh3 (.slice none 0 0) aw2 := hT3
  have hk3 : Keeps [] w w3 := hkT.out.fresh hmv3.k (fun b hb => .inr (hT2'.out.own_tag hb).1)
  have hI := Sh.O.one shT w3 (1, 5, 8) #[.int .i64 1, .int .u64 5, .int .i64 8] tI 0 rfl (by omega)
  have hkI := (Keeps.refl [] w3).alloc (.cells #[.int .i64 1, .int .u64 5, .int .i64 8] tI)
  have hT3' := hT3.keeps hkI
  have hans2 := answer_c (w3.alloc (.cells #[.int .i64 1, .int .u64 5, .int .i64 8] tI)) w.heap.size bt bm vo3 vh3 _ aw2 ⟨2, 1, 9, 7, true, false, 6, some ⟨w3.heap.size, 0, none⟩, 1, 1⟩ aa2 hT3' ⟨rfl, rfl, rfl, rfl, rfl, rfl, rfl, hI.r⟩ aw_ok2 (fun b hb _ e => by
    have h1 := (hT3.own_tag hb).2.1
    simp [AnV.v, Value.ownBlock] at e
    omega) (by have := hk3.size; simp; omega) aw_l.2.2.1 aw_l.2.2.2.1
  simp only [aV, AnV.v] at hans2
  have hkT3 := hk3.trans hkI
  replace hans2 := Lib.hid hans2
  replace hT3' := Lib.hid hT3'
  replace hkT3 := Lib.hid hkT3
  clear hT3 hmv3 hk3 hI hkI hT2' hkT hans f0 f1 f2 hne
  go_wp2_with fail
  refine hans2.out.mono ?_
  rintro e w4 ⟨vo4, vh4, rfl, hT4, hmv4⟩
  rw [aw_r2]
  replace hT4 : TrM w4 w.heap.size bt bm vo4 vh4 (.slice none 0 0) aw3 := hT4
  have hk4 : Keeps [] w w4 := hkT3.out.fresh hmv4.k (fun b hb => .inr (hT3'.out.own_tag hb).1)
  have hst := state_c w4 _ _ _ _ _ _ _ hT4
  rw [aw_s] at hst
  replace hst := Lib.hid hst
  replace hT4 := Lib.hid hT4
  replace hk4 := Lib.hid hk4
  clear hmv4 hT3' hkT3 hans2
  go_wp2_with fail
  refine hst.out.mono ?_
  rintro e w5 ⟨rfl, rfl⟩
  have hW := want_lc w4
  have hkW : Keeps [] w4 (((((w4.alloc (.cells #[.int .i64 2, .int .u64 5, .int .i64 8] tN)).alloc (.cells #[.int .i64 2, .int .u64 9, .int .i64 6] tN)).alloc (.cells #[.int .i64 1, .int .u64 9, .int .i64 4] tN)).alloc (.cells #[.int .i64 1, .int .u64 5, .int .i64 2] tN)).alloc
      (.cells #[.int .i64 1, .int .i64 3, .slice (some ⟨w4.heap.size, 0, none⟩) 1 1, .slice (some ⟨w4.heap.size + 1, 0, none⟩) 1 1, .slice none 0 0, .int .i64 2, .int .i64 7, .slice (some ⟨w4.heap.size + 1 + 1, 0, none⟩) 1 1, .slice (some ⟨w4.heap.size + 1 + 1 + 1, 0, none⟩) 1 1, .slice none 0 0] tC)) := ((((((Keeps.refl [] w4).alloc _).alloc _).alloc _).alloc _).alloc _)
  have hcl := claimsT_c _ _ _ _ _ _ _ _ (hT4.out.keeps hkW) aw_l.2.2.2.2
  have hkw := hk4.out.trans hkW
  replace hW := Lib.hid hW
  replace hcl := Lib.hid hcl
  replace hkw := Lib.hid hkw
  clear hkW hT4 hst hk4
  go_wp2_with fail
  refine hcl.out.mono ?_
  rintro e w6 ⟨v6, rfl, hv, hk6⟩
  have hsh : aw3.shown = true := by unfold Tr.shown; rw [aw_s]; rfl
  have hP6 : LC w6 v6 awW := by
    rcases hv with ⟨h1, _⟩ | ⟨_, P, Y, h2, h3, h4⟩
    · rw [hsh] at h1; cases h1
    · rw [aw_claims h3 h4] at h2; exact h2
  have hW6 := hW.out.keeps hk6
  have hsame := sameClaims_c w6 _ _ _ _ hP6 hW6
  rw [decide_eq_true rfl] at hsame
  have hkw6 := hkw.out.trans hk6
  replace hsame := Lib.hid hsame
  replace hkw6 := Lib.hid hkw6
  clear hv hk6 hP6 hW6 hW hkw hcl
  go_wp2_with fail
  refine hsame.out.mono ?_
  rintro e w7 ⟨rfl, hk7⟩
  have hnm := stateName_c w7 1 (by decide +kernel)
  have hkw7 := hkw6.out.trans hk7
  replace hnm := Lib.hid hnm
  replace hkw7 := Lib.hid hkw7
  clear hk7 hkw6 hsame
  go_wp2_with fail
  refine hnm.out.mono ?_
  rintro e w8 ⟨rfl, hk8⟩
  rw [show nmS 1 = ⟨#[99, 111, 110, 102, 105, 114, 109, 105, 110, 103]⟩ from rfl]
  have hkw8 := hkw7.out.trans hk8
  replace hkw8 := Lib.hid hkw8
  go_wp2
  go_ret
  exact ⟨rfl, hkw8.out⟩
end Go.Proofs.Ythfdngjbcgkkfaa
