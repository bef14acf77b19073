/- Texts that the laws lean on, in the order in which they build. The history of a trace that gathers holds the recorded answers: kept by the operations. The law's operations: their cells, what they do (plain). What holds of a trace after n operations (plain). The specification's Answer: its lists while the inset is opened. A trace and the specification's value side by side. The cells of a block; blocks made one after the other. The law's aim. (Printed by mktraim.py.) append(append([]E{}, ..), x) in one region that draws its order and stores the result in a cell. Of whatever program. -/
import Derived.Test.YthfdngjbcgkkfaaGreatQ8
set_option linter.unusedVariables false
set_option linter.unusedSimpArgs false
namespace Go.Proofs.YthfdngjbcgkkfaaGreat
open Go.RowKit

theorem Tr.put_rec {t : Tr} {a : Ans} (hn : t.op.Nodup) (ho : isOpen a.q t.qs = true) (b : Ans) : (∃ p ∈ ((t.take a).put a).rec', p.2 = b) ↔ b = a ∨ ∃ p ∈ t.rec', p.2 = b := by
  have hm := isOpen_mem.1 ho
  have hq : a.q ∈ t.qs.map (·.1) := List.mem_map.2 ⟨_, hm, rfl⟩
  have hr : ((t.take a).put a).rec' = recOf (setQ a.q a t.qs) := fold_rec _ _ _
  rw [hr]
  constructor
  · rintro ⟨⟨k, c⟩, hp, rfl⟩
    rcases (setQ_mem hq k (some c)).1 (recOf_keys.1 hp) with ⟨_, e⟩ | ⟨_, e⟩
    · exact .inl (Option.some.inj e)
    · exact .inr ⟨(k, c), recOf_keys.2 e, rfl⟩
  · rintro (rfl | ⟨⟨k, c⟩, hp, rfl⟩)
    · exact ⟨(b.q, b), recOf_keys.2 ((setQ_mem hq _ _).2 (.inl ⟨rfl, rfl⟩)), rfl⟩
    · refine ⟨(k, c), recOf_keys.2 ((setQ_mem hq _ _).2 ?_), rfl⟩
      have hp2 : (k, some c) ∈ t.qs := recOf_keys.1 hp
      by_cases e : k = a.q
      · subst e
        have := nd_val hn hm hp2
        cases this
      · exact .inr ⟨e, hp2⟩
theorem Tr.HistOk.new (im is : Int) (st : T3) : (Tr.new im is st).HistOk := fun _ b => by simp [Tr.new, Tr.rec', recOf]
theorem Tr.close_hist (t : Tr) : t.close.hist = t.hist ∧ t.close.rec' = t.rec' ∧ (t.close.state = 0 → t.state = 0) := by
  unfold Tr.close
  split
  · exact ⟨rfl, rfl, fun h => by simp at h⟩
  · exact ⟨rfl, rfl, id⟩
theorem Tr.HistOk.answer {t : Tr} {a : Ans} (h : t.HistOk) (hi : t.Inv) : (t.answer a).1.HistOk := by
  unfold Tr.answer
  split
  · exact h
  split
  · exact h
  split
  · exact fun hs => by simp at hs
  split
  · exact fun hs => by simp at hs
  split
  · exact fun hs => by simp at hs
  rename_i h0 ho _ _ _
  intro _ b
  obtain ⟨e1, e2, _⟩ := Tr.close_hist ((t.take a).put a)
  simp only [e1, e2]
  have ho2 : isOpen a.q t.qs = true := by simpa using ho
  rw [Tr.put_rec hi.nd ho2, ← h (by simpa using h0) b]
  show b ∈ t.hist ++ [a] ↔ _
  simp [or_comm]
theorem Tr.HistOk.refuse {t : Tr} (h : t.HistOk) (m : Int) : (t.refuseT m).1.HistOk := by
  unfold Tr.refuseT
  split
  · exact h
  split
  · split
    · exact h
    · exact fun hs => by simp at hs
  · exact h
theorem Tr.HistOk.agree {t : Tr} (h : t.HistOk) (m : Int) : (t.agreeT m).1.HistOk := by
  unfold Tr.agreeT
  split
  · exact h
  rename_i h1
  split
  · split
    · exact h
    · intro hs
      simp only at hs
      split at hs
      · cases hs
      · have : t.state = 1 := by simpa using h1
        omega
  · exact h
theorem Tr.mid_zero {t : Tr} {a : Ans} (hn : t.op.Nodup) {k : Nat} (hk : k < t.qs.length) (e : t.qs[k].1 = a.q) : (t.mid a 0).qs = t.qs.set k (a.q, some a) ∧ (t.mid a 0).op = t.op := by
  have h1 : (t.mid a 0).qs = setQ a.q a t.qs := by unfold Tr.mid; simp
  refine ⟨by rw [h1, setQ_set hn k hk e], ?_⟩
  unfold Tr.op
  rw [h1, setQ_keys]
theorem Tr.mid_take (t : Tr) (a : Ans) (i : Nat) : (t.mid a i).hist = t.hist ++ [a] ∧ (t.mid a i).state = t.state ∧ (t.mid a i).im = t.im ∧ (t.mid a i).is = t.is ∧ (t.mid a i).st = t.st ∧ (t.mid a i).told = t.told ∧ (t.mid a i).ag = t.ag ∧ (t.mid a i).rf = t.rf := ⟨rfl, rfl, rfl, rfl, rfl, rfl, rfl, rfl⟩
theorem Tr.mid_rk {t : Tr} {a : Ans} (hi : t.Inv) (ho : isOpen a.q t.qs = true) (hk : a.kn = true) (i : Nat) : ∀ p ∈ (t.mid a i).rec', p.2.kn = true := by
  intro p hp
  have hr : (t.mid a i).rec' = recOf (setQ a.q a t.qs) := fold_rec _ _ _
  rw [hr] at hp
  obtain ⟨q, b⟩ := p
  have hm := isOpen_mem.1 ho
  rcases (setQ_mem (List.mem_map.2 ⟨_, hm, rfl⟩) q (some b)).1 (recOf_keys.1 hp) with ⟨_, e⟩ | ⟨_, e⟩
  · rw [Option.some.inj e]; exact hk
  · exact hi.rk (q, b) (recOf_keys.2 e)
end Go.Proofs.YthfdngjbcgkkfaaGreat

namespace Go.Proofs.YthfdngjbcgkkfaaGreat
open Go.ChangeShapes Go.WideShapes Go.ChangeAt Go.RowKit

abbrev tOp : Nat := 42
structure Op3 where
  k : Nat
  i : Int
  near : Bool
  a : Ans
structure Op3.Fit (o : Op3) : Prop where
  k : o.k < 256
  i : W64 o.i
  a : o.a.Fit
/-- The cells of an operation. -/
def OpC (w : World) (cs : List Value) (o : Op3) : Prop := ∃ x : AnV, cs = .int .u8 o.k :: .int .i64 o.i :: .bool o.near :: x.cs ∧ InR w x o.a ∧ o.Fit
theorem OpC.keeps {w w' : World} {cs : List Value} {o : Op3} (h : OpC w cs o) (hk : Keeps [] w w') : OpC w' cs o := by
  obtain ⟨x, h1, h2, h3⟩ := h
  exact ⟨x, h1, h2.keep hk (by simp), h3⟩
/-- A list of operations that is read. -/
def LO (w : World) (v : Value) (L : List Op3) : Prop := Gen.SlR OpC 11 w v L
theorem LO.keeps {w w' : World} {v : Value} {L : List Op3} (h : LO w v L) (hk : Keeps [] w w') : LO w' v L := Gen.SlR.keeps h hk (fun _ _ h => h.keeps hk)
theorem LO.elem {w : World} {v : Value} {L : List Op3} (h : LO w v L) {k : Nat} (hk : k < L.length) : ∃ g o c x, v = .slice (some ⟨g, o, none⟩) L.length c ∧ InR w x L[k].a ∧ L[k].Fit ∧
    w.cell? ⟨g, o + k * 11, none⟩ = some (.int .u8 L[k].k) ∧ w.cell? ⟨g, o + k * 11 + 1, none⟩ = some (.int .i64 L[k].i) ∧ w.cell? ⟨g, o + k * 11 + 2, none⟩ = some (.bool L[k].near) ∧ w.cell? ⟨g, o + k * 11 + 3, none⟩ = some (.int .i64 x.m) ∧ w.cell? ⟨g, o + k * 11 + 4, none⟩ = some (.int .i64 x.ow) ∧
    w.cell? ⟨g, o + k * 11 + 5, none⟩ = some (.int .u64 x.n) ∧ w.cell? ⟨g, o + k * 11 + 6, none⟩ = some (.int .i64 x.ep) ∧ w.cell? ⟨g, o + k * 11 + 7, none⟩ = some (.bool x.kn) ∧ w.cell? ⟨g, o + k * 11 + 8, none⟩ = some (.bool x.rt) ∧ w.cell? ⟨g, o + k * 11 + 9, none⟩ = some (.int .i64 x.lu) ∧ w.cell? ⟨g, o + k * 11 + 10, none⟩ = some x.v := by
  obtain ⟨g, o, c, xs, h1, h2, ⟨x, e, h3, h4⟩, h5⟩ := Gen.SlR.elem h (by decide) hk
  subst e
  exact ⟨g, o, c, x, h1, h3, h4, h5 0 _ rfl, h5 1 _ rfl, h5 2 _ rfl, h5 3 _ rfl, h5 4 _ rfl, h5 5 _ rfl, h5 6 _ rfl, h5 7 _ rfl, h5 8 _ rfl, h5 9 _ rfl, h5 10 _ rfl⟩
set_option maxRecDepth 100000 in
set_option maxHeartbeats 1000000 in
theorem cs_op {w : World} {cs : List Value} (h : Gen.Cs Tryz.prog w tOp cs) : ∃ o, OpC w cs o := by
  obtain ⟨hl, hall⟩ := Gen.Cs.struct Tryz.underlying42 h
  rw [show Tryz.prog.cellsOf tOp = 11 by kernel_rfl] at hl
  obtain ⟨a, b, c, d, e, f, g, i, j, k, l, rfl⟩ : ∃ a b c d e f g i j k l, cs = [a, b, c, d, e, f, g, i, j, k, l] := by
    match cs, hl with
    | [a, b, c, d, e, f, g, i, j, k, l], _ => exact ⟨a, b, c, d, e, f, g, i, j, k, l, rfl⟩
  have h0 := hall 0 _ rfl
  have h1 := hall 1 _ rfl
  have h2 := hall 2 _ rfl
  have h3 := hall 3 _ rfl
  replace h0 : Gen.Cs Tryz.prog w 5 (([a, b, c, d, e, f, g, i, j, k, l].drop 0).take (Tryz.prog.cellsOf 5)) := h0
  replace h1 : Gen.Cs Tryz.prog w 3 (([a, b, c, d, e, f, g, i, j, k, l].drop 1).take (Tryz.prog.cellsOf 3)) := h1
  replace h2 : Gen.Cs Tryz.prog w 4 (([a, b, c, d, e, f, g, i, j, k, l].drop 2).take (Tryz.prog.cellsOf 4)) := h2
  replace h3 : Gen.Cs Tryz.prog w tA (([a, b, c, d, e, f, g, i, j, k, l].drop 3).take (Tryz.prog.cellsOf tA)) := h3
  rw [show Tryz.prog.cellsOf 5 = 1 by kernel_rfl] at h0
  rw [show Tryz.prog.cellsOf 3 = 1 by kernel_rfl] at h1
  rw [show Tryz.prog.cellsOf 4 = 1 by kernel_rfl] at h2
  rw [show Tryz.prog.cellsOf tA = 8 by kernel_rfl] at h3
  obtain ⟨z0, e0, w0⟩ := Gen.Cs.int Tryz.underlying5 h0
  obtain ⟨z1, e1, w1⟩ := Gen.Cs.int Tryz.underlying3 h1
  obtain ⟨z2, e2⟩ := Gen.Cs.bool Tryz.underlying4 h2
  obtain ⟨y, x, hx, hI, hF⟩ := cs_ans h3
  have hb : 0 ≤ z0 ∧ z0 ≤ 255 := by simpa [Lit.wf, IntKind.min, IntKind.max, IntKind.signed, IntKind.bits] using w0
  obtain ⟨n0, rfl⟩ : ∃ n : Nat, z0 = n := ⟨z0.toNat, by omega⟩
  simp at e0 e1 e2 hx
  subst e0 e1 e2
  exact ⟨⟨n0, z1, z2, y⟩, x, by rw [← hx], hI, ⟨by show n0 < 256; omega, w64_wf w1, hF⟩⟩
set_option maxRecDepth 100000 in
set_option maxHeartbeats 1000000 in
theorem open_ops {H : Type} {enc : TypeId × Value → H} {W : World} {base : Nat} {r : Reach} {v : Value} {d : DataW H} {ps : List MemPlace} (hv : Value.okWide Tryz.prog W r base 27 v)
    (h : DataW.Trod enc Tryz.prog W 0 (fun _ => true) true 27 v d ps) : ∃ L : List Op3, LO W v L := by
  obtain ⟨a0, n0, c0, rfl⟩ := okWide_slice Tryz.underlying27 hv
  obtain ⟨L, hL, _⟩ := Gen.SlR.open (R := OpC) Tryz.underlying27 (show Tryz.prog.cellsOf tOp = 11 by kernel_rfl) (by decide) (fun cs hcs => cs_op hcs) (Gen.Cs.of_trod rfl h)
  exact ⟨L, hL⟩
/-- The questions without an answer. -/
def opens (qs : Qs) : List Qn := (qs.filter (fun p => !p.2.isSome)).map (·.1)
theorem opens_snoc (qs : Qs) (p : Qn × Option Ans) : opens (qs ++ [p]) = opens qs ++ if p.2.isSome then [] else [p.1] := by
  unfold opens
  rw [List.filter_append, List.map_append]
  obtain ⟨q, u⟩ := p
  cases u <;> simp
theorem opens_len (qs : Qs) : (opens qs).length ≤ qs.length := by unfold opens; rw [List.length_map]; exact List.length_filter_le _ _
theorem opens_mem {qs : Qs} {q : Qn} (h : q ∈ opens qs) : q ∈ qs.map (·.1) := by
  unfold opens at h
  obtain ⟨p, hp, rfl⟩ := List.mem_map.1 h
  exact List.mem_map.2 ⟨p, (List.mem_filter.1 hp).1, rfl⟩
/-- The chosen one. -/
def pick (i : Int) (n : Nat) : Nat := (Int.tmod (Int.tmod i n + n) n).toNat
theorem pick_lt {i : Int} {n : Nat} (h : 0 < n) : pick i n < n ∧ (pick i n : Int) = Int.tmod (Int.tmod i n + n) n ∧ 0 ≤ Int.tmod i n + n ∧ Int.tmod i n + n ≤ 2 * n := by
  have h1 := Int.tmod_lt_of_pos i (show (0 : Int) < n by omega)
  have h2 := Int.lt_tmod_of_pos i (show (0 : Int) < n by omega)
  have h3 := Int.tmod_lt_of_pos (Int.tmod i n + n) (show (0 : Int) < n by omega)
  have h4 := Int.tmod_nonneg (a := Int.tmod i n + n) (n : Int) (by omega)
  unfold pick
  omega
def Op3.aim (o : Op3) (qs : Qs) : Ans := if o.k ≤ 1 ∧ 0 < (opens qs).length then (match (opens qs)[pick o.i (opens qs).length]? with | some q => { o.a with m := q.1, ow := q.2.1, n := q.2.2 } | none => o.a) else o.a
theorem aim_in {o : Op3} {qs : Qs} (h1 : o.k ≤ 1) (h2 : 0 < (opens qs).length) : o.aim qs = { o.a with m := ((opens qs)[pick o.i (opens qs).length]'(pick_lt h2).1).1, ow := ((opens qs)[pick o.i (opens qs).length]'(pick_lt h2).1).2.1, n := ((opens qs)[pick o.i (opens qs).length]'(pick_lt h2).1).2.2 } := by
  unfold Op3.aim
  rw [if_pos ⟨h1, h2⟩, List.getElem?_eq_getElem (pick_lt h2).1]
theorem aim_out {o : Op3} {qs : Qs} (h : ¬ (o.k ≤ 1 ∧ 0 < (opens qs).length)) : o.aim qs = o.a := by unfold Op3.aim; rw [if_neg h]
theorem aim_ins (o : Op3) (qs : Qs) : (o.aim qs).ins = o.a.ins := by
  unfold Op3.aim
  split
  · split <;> rfl
  · rfl
/-- The machine that a reply is for. -/
def Op3.mach (o : Op3) (t : Tr) : Int := if o.near = true ∧ t.state = 1 then (match t.clm[t.ag.length]? with | some p => p.m | none => o.i) else o.i
def Op3.step (o : Op3) (t : Tr) : Tr :=
  if o.k ≤ 3 then (t.answer (o.aim t.qs)).1 else if o.k = 4 then t.queries.1 else if o.k = 5 then (t.agreeT (o.mach t)).1 else if o.k = 6 then (t.refuseT (o.mach t)).1 else t
end Go.Proofs.YthfdngjbcgkkfaaGreat

namespace Go.Proofs.YthfdngjbcgkkfaaGreat
open Go.RowKit

/-- A trace after n operations of at most five entries each. -/
structure Tr.Bnd (t : Tr) (n : Nat) : Prop where
  ho : t.HistOk
  qs : t.qs.length ≤ 1 + 5 * n
  ne : t.qs ≠ []
  hl : t.hist.length ≤ n
  hi : ∀ a ∈ t.hist, a.ins.length ≤ 5
  ag : t.ag.length ≤ n
  tl : ∃ tn : Nat, t.told = tn ∧ tn ≤ t.qs.length
  s1 : t.state = 1 → t.ag.length < t.clm.length
  s0 : t.state = 0 → t.ag = []
  rf : t.rf = true → t.state = 4
theorem Tr.clm_qs {t u : Tr} (h : u.qs = t.qs) : u.clm = t.clm := by
  cases t; cases u
  simp only at h
  subst h
  rfl
theorem Tr.clm_pos {t : Tr} (h : t.Inv) (hn : t.rec' ≠ []) : 0 < t.clm.length := by
  have hs := srtOf_sorted h
  have hp : ClaimsP t (srtOf t.qs) t.clm := refOf_claims hs.2
  obtain ⟨h1, _⟩ := ClaimsP.at' hs.2 hp
  rw [h1]
  obtain ⟨_, _, h3⟩ := rawOf_eq t (outsOf (srtOf t.qs)) (srtOf t.qs) hs.2
  obtain ⟨p, hpm⟩ := List.exists_mem_of_ne_nil _ hn
  have hm : p.2 ∈ srtOf t.qs := hs.1.mem_iff.2 (List.mem_map.2 ⟨p, hpm, rfl⟩)
  have := (h3 p.2.m).2 ⟨p.2, hm, rfl⟩
  exact List.length_pos_of_mem this
theorem Tr.Bnd.new (im is : Int) (st : T3) : (Tr.new im is st).Bnd 0 :=
  ⟨Tr.HistOk.new im is st, by simp [Tr.new], by simp [Tr.new], by simp [Tr.new], by simp [Tr.new], by simp [Tr.new], ⟨0, rfl, by simp [Tr.new]⟩, by simp [Tr.new], by simp [Tr.new], by simp [Tr.new]⟩
theorem Tr.Bnd.mono {t : Tr} {n m : Nat} (h : t.Bnd n) (hm : n ≤ m) : t.Bnd m := ⟨h.ho, by have := h.qs; omega, h.ne, by have := h.hl; omega, h.hi, by have := h.ag; omega, h.tl, h.s1, h.s0, h.rf⟩
theorem setQ_length (q : Qn) (a : Ans) (qs : Qs) : (setQ q a qs).length = qs.length := by unfold setQ; simp
theorem fold_ge (m : Int) : ∀ (l : List T3) (qs : Qs), qs.length ≤ (l.foldl (openQ m) qs).length
  | [], _ => Nat.le_refl _
  | x :: l, qs => Nat.le_trans (by unfold openQ; split <;> simp) (fold_ge m l (openQ m qs x))
theorem Tr.Bnd.answer {t : Tr} {n : Nat} {a : Ans} (h : t.Bnd n) (hi : t.Inv) (hi' : (t.answer a).1.Inv) (ha : a.ins.length ≤ 5) : (t.answer a).1.Bnd (n + 1) := by
  have hho := h.ho.answer (a := a) hi
  have hist : ∀ b ∈ t.hist ++ [a], b.ins.length ≤ 5 := fun b hb => by
    rcases List.mem_append.1 hb with hb | hb
    · exact h.hi b hb
    · rw [List.mem_singleton.1 hb]; exact ha
  have hl : (t.hist ++ [a]).length ≤ n + 1 := by have := h.hl; simp; omega
  have hg : t.ag.length ≤ n + 1 := by have := h.ag; omega
  have hq : t.qs.length ≤ 1 + 5 * (n + 1) := by have := h.qs; omega
  revert hho hi'
  unfold Tr.answer
  split
  · exact fun _ _ => h.mono (by omega)
  rename_i h0
  have h0 : t.state = 0 := by simpa using h0
  have hrf : t.rf = false := by
    cases e : t.rf with
    | false => rfl
    | true => have := h.rf e; omega
  split
  · exact fun _ _ => h.mono (by omega)
  split
  · exact fun _ hho => ⟨hho, hq, h.ne, hl, hist, hg, h.tl, by simp, by simp, fun _ => rfl⟩
  split
  · exact fun _ hho => ⟨hho, hq, h.ne, hl, hist, hg, h.tl, by simp, by simp, fun e => by simp [Tr.take, hrf] at e⟩
  split
  · exact fun _ hho => ⟨hho, hq, h.ne, hl, hist, hg, h.tl, by simp, by simp, fun _ => rfl⟩
  intro hi' hho
  obtain ⟨tn, e1, e2⟩ := h.tl
  have hlen : ((t.take a).put a).qs.length ≤ 1 + 5 * (n + 1) := by
    have := fold_len a.m a.ins (setQ a.q a t.qs)
    rw [setQ_length] at this
    have h2 := h.qs
    show (a.ins.foldl (openQ a.m) (setQ a.q a t.qs)).length ≤ _
    omega
  have hge : t.qs.length ≤ ((t.take a).put a).qs.length := by
    have := fold_ge a.m a.ins (setQ a.q a t.qs)
    rw [setQ_length] at this
    exact this
  have hpos : 0 < t.qs.length := List.length_pos_iff.2 h.ne
  have hne : ((t.take a).put a).qs ≠ [] := List.length_pos_iff.1 (by omega)
  unfold Tr.close at hho hi' ⊢
  by_cases hall : allQ ((t.take a).put a).qs = true
  · simp only [hall, if_true] at hho hi' ⊢
    refine ⟨hho, hlen, hne, hl, hist, hg, ⟨tn, e1, by simp only; omega⟩, fun _ => ?_, by simp, fun e => by simp [Tr.take, Tr.put, hrf] at e⟩
    have hag : ((t.take a).put a).ag = [] := h.s0 h0
    have hcp := Tr.clm_pos hi' (fun e => by
      have := (rec_len ((t.take a).put a).qs).2.2 hall
      have e' : recOf ((t.take a).put a).qs = [] := e
      rw [e'] at this
      simp at this
      omega)
    show ((t.take a).put a).ag.length < _
    rw [hag]
    exact hcp
  · simp only [hall] at hho hi' ⊢
    exact ⟨hho, hlen, hne, hl, hist, hg, ⟨tn, e1, by simp only [Bool.false_eq_true, if_false]; omega⟩, fun e => by simp [Tr.take, Tr.put, h0] at e, fun _ => h.s0 h0, fun e => by simp [Tr.take, Tr.put, hrf] at e⟩
theorem Tr.Bnd.queries {t : Tr} {n : Nat} (h : t.Bnd n) : t.queries.1.Bnd (n + 1) := by
  unfold Tr.queries
  split
  · exact h.mono (by omega)
  · exact ⟨h.ho, by have := h.qs; simp only; omega, h.ne, by have := h.hl; simp only; omega, h.hi, by have := h.ag; simp only; omega, ⟨t.qs.length, rfl, Nat.le_refl _⟩, h.s1, h.s0, h.rf⟩
theorem Tr.Bnd.agree {t : Tr} {n : Nat} (h : t.Bnd n) (m : Int) : (t.agreeT m).1.Bnd (n + 1) := by
  have hho := h.ho.agree m
  revert hho
  unfold Tr.agreeT
  split
  · exact fun _ => h.mono (by omega)
  rename_i h1
  have h1 : t.state = 1 := by simpa using h1
  have hlt := h.s1 h1
  split
  · split
    · exact fun _ => h.mono (by omega)
    · intro hho
      refine ⟨hho, by have := h.qs; simp only; omega, h.ne, by have := h.hl; simp only; omega, h.hi, by have := h.ag; simp; omega, h.tl, fun e => ?_, fun e => ?_, fun e => ?_⟩
      · simp only at e
        split at e
        · omega
        · rename_i hne
          have e2 := @Tr.clm_qs t { t with ag := t.ag ++ [m], state := if t.ag.length + 1 = t.clm.length then 2 else t.state } rfl
          rw [e2]
          simp only [List.length_append, List.length_cons, List.length_nil]
          omega
      · simp only at e
        split at e <;> omega
      · have := h.rf e
        omega
  · exact fun _ => h.mono (by omega)
theorem Tr.Bnd.refuse {t : Tr} {n : Nat} (h : t.Bnd n) (m : Int) : (t.refuseT m).1.Bnd (n + 1) := by
  have hho := h.ho.refuse m
  revert hho
  unfold Tr.refuseT
  split
  · exact fun _ => h.mono (by omega)
  split
  · split
    · exact fun _ => h.mono (by omega)
    · intro hho
      exact ⟨hho, by have := h.qs; simp only; omega, h.ne, by have := h.hl; simp only; omega, h.hi, by have := h.ag; simp only; omega, h.tl, by simp, by simp, fun _ => rfl⟩
  · exact fun _ => h.mono (by omega)
/-- The aimed answer fits. -/
theorem aim_fit {o : Op3} {t : Tr} (h : o.Fit) (hi : t.Inv) : (o.aim t.qs).Fit := by
  by_cases hc : o.k ≤ 1 ∧ 0 < (opens t.qs).length
  · rw [aim_in hc.1 hc.2]
    have hm := opens_mem (List.getElem_mem (pick_lt (i := o.i) hc.2).1)
    have hq := hi.ok _ hm
    exact ⟨hq, h.a.ep, h.a.lu, h.a.ins⟩
  · rw [aim_out hc]; exact h.a
theorem Op3.step_bnd {o : Op3} {t : Tr} {n : Nat} (h : t.Bnd n) (hi : t.Inv) (hi' : (o.step t).Inv) (ha : o.a.ins.length ≤ 5) : (o.step t).Bnd (n + 1) := by
  revert hi'
  unfold Op3.step
  split
  · exact fun hi' => h.answer hi hi' (by rw [aim_ins]; exact ha)
  split
  · exact fun _ => h.queries
  split
  · exact fun _ => h.agree _
  split
  · exact fun _ => h.refuse _
  · exact fun _ => h.mono (by omega)
/-- A run of operations. -/
def runT (L : List Op3) (t : Tr) : Tr := L.foldl (fun t o => o.step t) t
theorem runT_snoc (L : List Op3) (o : Op3) (t : Tr) : runT (L ++ [o]) t = o.step (runT L t) := by unfold runT; rw [List.foldl_append]; rfl
theorem runT_take (L : List Op3) (t : Tr) (k : Nat) (hk : k < L.length) : runT (L.take (k + 1)) t = L[k].step (runT (L.take k) t) := by
  rw [List.take_succ_eq_append_getElem hk, runT_snoc]
end Go.Proofs.YthfdngjbcgkkfaaGreat

namespace Go.Proofs.YthfdngjbcgkkfaaGreat
open Go.RowKit

theorem drewH (w : World) (b : Nat) : w.drew.heap[b]? = w.heap[b]? := rfl
theorem Tr.mid_len (t : Tr) (a : Ans) : ∀ i, i ≤ a.ins.length → t.qs.length ≤ (t.mid a i).qs.length
  | 0, _ => by unfold Tr.mid; simp [setQ]
  | i + 1, hi => by
    have ih := Tr.mid_len t a i (by omega)
    rw [Tr.mid_succ t a i (by omega)]
    simp only
    unfold openQ
    split
    · exact ih
    · simp; omega
def midX (t : Tr) (a : Ans) (X : List AnV) (k : Nat) (y : AnV) (i : Nat) : List AnV := X.set k y ++ List.replicate ((t.mid a i).qs.length - t.qs.length) AnV.zero
def nq (a : Ans) (x : T3) : Qn := (x.1, a.m, x.2.1)
theorem midX_old {t : Tr} {a : Ans} {X : List AnV} {k : Nat} {y : AnV} {i : Nat} (hi : i < a.ins.length) (h : nq a a.ins[i] ∈ (t.mid a i).op) : midX t a X k y (i + 1) = midX t a X k y i ∧ (t.mid a (i + 1)).op = (t.mid a i).op := by
  unfold midX
  rw [Tr.mid_old t a i hi h]
  exact ⟨rfl, rfl⟩
theorem midX_new {t : Tr} {a : Ans} {X : List AnV} {k : Nat} {y : AnV} {i : Nat} (hi : i < a.ins.length) (h : nq a a.ins[i] ∉ (t.mid a i).op) : midX t a X k y (i + 1) = midX t a X k y i ++ [AnV.zero] ∧ (t.mid a (i + 1)).op.map ndq = (t.mid a i).op.map ndq ++ [ndq (nq a a.ins[i])] := by
  have hl := Tr.mid_len t a i (by omega)
  unfold midX
  rw [Tr.mid_new t a i hi h]
  refine ⟨?_, by simp [Tr.op, nq]⟩
  simp only [List.length_append, List.length_singleton]
  rw [show (t.mid a i).qs.length + 1 - t.qs.length = ((t.mid a i).qs.length - t.qs.length) + 1 by omega, List.replicate_succ', List.append_assoc]
theorem midX_zero {t : Tr} {a : Ans} {X : List AnV} {k : Nat} {y : AnV} (hn : t.op.Nodup) (hk : k < t.qs.length) (e : t.qs[k].1 = a.q) : midX t a X k y 0 = X.set k y := by
  unfold midX
  rw [(Tr.mid_zero hn hk e).1]
  simp
theorem RA.mid {w : World} {t : Tr} {a : Ans} {X : List AnV} {k : Nat} {y : AnV} (hn : t.op.Nodup) (hk : k < t.qs.length) (e : t.qs[k].1 = a.q) (h : RA w X t.qs) (hy : InA w y a) : ∀ i, i ≤ a.ins.length → RA w (midX t a X k y i) (t.mid a i).qs
  | 0, _ => by
    have h1 := (Tr.mid_zero hn hk e).1
    unfold midX
    rw [h1]
    simp only [List.length_set, Nat.sub_self, List.replicate_zero, List.append_nil]
    exact h.set hy
  | i + 1, hi => by
    have ih := RA.mid hn hk e h hy i (by omega)
    by_cases hm : nq a (a.ins[i]'(by omega)) ∈ (t.mid a i).op
    · rw [(midX_old (by omega) hm).1, Tr.mid_old t a i (by omega) hm]; exact ih
    · rw [(midX_new (by omega) hm).1, Tr.mid_new t a i (by omega) hm]; exact ih.open
theorem Tr.mid_le (t : Tr) (a : Ans) : ∀ i, i ≤ a.ins.length → (t.mid a i).qs.length ≤ t.qs.length + i
  | 0, _ => by unfold Tr.mid; simp [setQ]
  | i + 1, hi => by
    have ih := Tr.mid_le t a i (by omega)
    rw [Tr.mid_succ t a i (by omega)]
    simp only
    unfold openQ
    split
    · omega
    · simp; omega
theorem grwBlk {wr w' : World} {v v' : Value} {e : TypeId} {b : Nat} (hG : Grw wr w' v v') (hv : ∀ b, v.ownBlock = some b → ∃ (cs : Array Value), wr.heap[b]? = some (Obj.cells cs e (0, 0))) {cs : Array Value} {e' : TypeId} (hb : wr.heap[b]? = some (.cells cs e' (0, 0))) (hne : e' ≠ e) : w'.heap[b]? = some (.cells cs e' (0, 0)) :=
  (hG.keepsO.block b (lt_of_blk hb) (fun hm => by obtain ⟨c2, h2⟩ := hv b (by simpa using hm); exact tag_ne hb h2 hne rfl)).trans hb
/-- The memory while the inset is opened. -/
structure MidS (w wr : World) (a : Ans) (B : Nat) (v6 v7 v8 vI : Value) (L6 : List T3) (L7 L8 : List AnV) : Prop where
  o6 : shT.O wr w.heap.size tN v6 L6
  o7 : shA.O wr B tA v7 L7
  o8 : shA.O wr w.heap.size tA v8 L8
  oI : shT.O wr w.heap.size tI vI a.ins
  b8 : ∀ b, v8.ownBlock = some b → b < B
  kw : Keeps [] w wr
  lB : w.heap.size ≤ B
  wB : B ≤ wr.heap.size
theorem MidS.keeps {w wr w' : World} {a : Ans} {B : Nat} {v6 v7 v8 vI : Value} {L6 : List T3} {L7 L8 : List AnV} (m : MidS w wr a B v6 v7 v8 vI L6 L7 L8) (hk : Keeps [] wr w') : MidS w w' a B v6 v7 v8 vI L6 L7 L8 :=
  ⟨m.o6.keeps hk, m.o7.keeps hk, m.o8.keeps hk, m.oI.keeps hk, m.b8, m.kw.trans hk, m.lB, Nat.le_trans m.wB hk.size⟩
theorem MidS.boxes {w wr w' : World} {a : Ans} {B : Nat} {v6 v7 v8 vI : Value} {L6 : List T3} {L7 L8 : List AnV} {S : List Nat} (m : MidS w wr a B v6 v7 v8 vI L6 L7 L8) (hk : Keeps S wr w') (hS : ∀ b ∈ S, w.heap.size ≤ b ∧ ∃ cs : Array Value, wr.heap[b]? = some (.cells cs tR (0, 0))) : MidS w w' a B v6 v7 v8 vI L6 L7 L8 := by
  have k1 : ∀ (e : TypeId) (v : Value), e ≠ tR → (∀ b, v.ownBlock = some b → ∃ (cs : Array Value), wr.heap[b]? = some (Obj.cells cs e (0, 0))) → ∀ b ∈ S, v.ownBlock ≠ some b := fun e v he ht b hb hv => by
    obtain ⟨cs, hc⟩ := ht b hv
    obtain ⟨_, cs2, h2⟩ := hS b hb
    exact tag_ne h2 hc (Ne.symm he) rfl
  exact ⟨m.o6.keepS hk (k1 tN _ (by decide) m.o6.tag), m.o7.keepS hk (k1 tA _ (by decide) m.o7.tag), m.o8.keepS hk (k1 tA _ (by decide) m.o8.tag), m.oI.keepS hk (k1 tI _ (by decide) m.oI.tag), m.b8,
    m.kw.fresh hk (fun b hb => .inr (hS b hb).1), m.lB, Nat.le_trans m.wB hk.size⟩
theorem MidS.grow6 {w wr w' : World} {a : Ans} {B : Nat} {v6 v6' v7 v8 vI : Value} {L6 L6' : List T3} {L7 L8 : List AnV} (m : MidS w wr a B v6 v7 v8 vI L6 L7 L8) (hO : shT.O w' w.heap.size tN v6' L6') (hG : Grw wr w' v6 v6') : MidS w w' a B v6' v7 v8 vI L6' L7 L8 := by
  have k1 : ∀ (e : TypeId) (v : Value), e ≠ tN → (∀ b, v.ownBlock = some b → ∃ (cs : Array Value), wr.heap[b]? = some (Obj.cells cs e (0, 0))) → ∀ b ∈ v6.ownBlock.toList, v.ownBlock ≠ some b := fun e v he ht b hb hv => by
    obtain ⟨cs, hc⟩ := ht b hv
    obtain ⟨cs2, h2⟩ := m.o6.tag b (by simpa using hb)
    exact tag_ne h2 hc (Ne.symm he) rfl
  have hk := hG.keepsO
  exact ⟨hO, m.o7.keepS hk (k1 tA _ (by decide) m.o7.tag), m.o8.keepS hk (k1 tA _ (by decide) m.o8.tag), m.oI.keepS hk (k1 tI _ (by decide) m.oI.tag), m.b8, Grw.keeps m.kw hG (fun b hb => m.o6.ge b hb), m.lB, Nat.le_trans m.wB hk.size⟩
theorem MidS.grow7 {w wr w' : World} {a : Ans} {B : Nat} {v6 v7 v7' v8 vI : Value} {L6 : List T3} {L7 L7' L8 : List AnV} (m : MidS w wr a B v6 v7 v8 vI L6 L7 L8) (hO : shA.O w' B tA v7' L7') (hG : Grw wr w' v7 v7') : MidS w w' a B v6 v7' v8 vI L6 L7' L8 := by
  have k1 : ∀ (e : TypeId) (v : Value), e ≠ tA → (∀ b, v.ownBlock = some b → ∃ (cs : Array Value), wr.heap[b]? = some (Obj.cells cs e (0, 0))) → ∀ b ∈ v7.ownBlock.toList, v.ownBlock ≠ some b := fun e v he ht b hb hv => by
    obtain ⟨cs, hc⟩ := ht b hv
    obtain ⟨cs2, h2⟩ := m.o7.tag b (by simpa using hb)
    exact tag_ne h2 hc (Ne.symm he) rfl
  have hk := hG.keepsO
  exact ⟨m.o6.keepS hk (k1 tN _ (by decide) m.o6.tag), hO, m.o8.keepS hk (fun b hb e => by have h1 := m.b8 b e; have h2 := m.o7.ge b (by simpa using hb); omega), m.oI.keepS hk (k1 tI _ (by decide) m.oI.tag), m.b8,
    Grw.keeps m.kw hG (fun b hb => Nat.le_trans m.lB (m.o7.ge b hb)), m.lB, Nat.le_trans m.wB hk.size⟩
theorem MidS.block {w wr w' : World} {a : Ans} {B : Nat} {v6 v7 v8 vI : Value} {L6 : List T3} {L7 L8 : List AnV} {v v' : Value} {e : TypeId} {b : Nat} {o : Obj} (hG : Grw wr w' v v') (hv : ∀ b, v.ownBlock = some b → ∃ (cs : Array Value), wr.heap[b]? = some (Obj.cells cs e (0, 0))) {cs : Array Value} {e' : TypeId} (hb : wr.heap[b]? = some (.cells cs e' (0, 0))) (hne : e' ≠ e) : w'.heap[b]? = some (.cells cs e' (0, 0)) :=
  (hG.keepsO.block b (lt_of_blk hb) (fun hm => by obtain ⟨c2, h2⟩ := hv b (by simpa using hm); exact tag_ne hb h2 hne rfl)).trans hb
theorem MidS.rf {w wr : World} {t : Tr} {a : Ans} {B : Nat} {p6 p7 p8 : Option Addr × Nat × Nat} {va : Option Addr} {N vc k i : Nat} {X XH : List AnV} {x : RfV} (n : Int)
    (m : MidS w wr a B (slv p6) (slv p7) (slv p8) (.slice va N vc) ((t.mid a i).op.map ndq) (midX t a X k ⟨a.m, a.ow, a.n, a.ep, a.kn, a.rt, a.lu, va, N, vc⟩ i) (XH ++ [⟨a.m, a.ow, a.n, a.ep, a.kn, a.rt, a.lu, va, N, vc⟩]))
    (h : RfR w x t) (hX : RA w X t.qs) (hH : LA w XH t.hist) (hn : t.op.Nodup) (hk : k < t.qs.length) (e : t.qs[k].1 = a.q) (hi : i ≤ a.ins.length) :
    RfR wr ⟨x.im, x.is, x.s0, x.s1, x.s2, n, p6, p7, x.told, x.vg, x.rf, p8⟩ { t.mid a i with state := n } := by
  have hy : InA wr ⟨a.m, a.ow, a.n, a.ep, a.kn, a.rt, a.lu, va, N, vc⟩ a := ⟨rfl, rfl, rfl, rfl, rfl, rfl, rfl, ⟨_, m.oI⟩⟩
  exact ⟨h.im, h.is, h.s0, h.s1, h.s2, rfl, h.told, h.rf, m.o6.r, ⟨_, m.o7.r, RA.mid hn hk e (hX.keeps m.kw) hy i hi⟩, h.ag.keeps m.kw, ⟨_, m.o8.r, (hH.ki m.kw.ki0).snoc hy⟩⟩
end Go.Proofs.YthfdngjbcgkkfaaGreat

namespace Go.Proofs.YthfdngjbcgkkfaaGreat
open Go.RowKit

theorem RfR.moved {w w' : World} {x : RfV} {t : Tr} {S : List Nat} (h : RfR w x t) (hk : Keeps S w w') (hi : KI w w') (hS : ∀ b ∈ S, b ∉ blks x) : RfR w' x t := by
  obtain ⟨X, hX, hXR⟩ := h.an
  obtain ⟨Z, hZ, hZR⟩ := h.hi
  exact ⟨h.im, h.is, h.s0, h.s1, h.s2, h.st, h.told, h.rf, h.op.keepS hk (fun b hb e => hS b hb (mem_blks.2 (.inl e))),
    ⟨X, hX.keepS hk (fun b hb e => hS b hb (mem_blks.2 (.inr (.inl e)))), hXR.all (fun x b hb => hb.ki hi)⟩,
    h.ag.keepS hk (fun b hb e => hS b hb (mem_blks.2 (.inr (.inr (.inl e))))), ⟨Z, hZ.keepS hk (fun b hb e => hS b hb (mem_blks.2 (.inr (.inr (.inr e))))), hZR.ki hi⟩⟩
/-- The program's trace and the specification's value say the same trace and share no block. -/
structure Both (w : World) (B bt bm : Nat) (vo vh vg : Value) (x : RfV) (t : Tr) : Prop where
  m : TrM w B bt bm vo vh vg t
  r : RfR w x t
  b : ∀ b ∈ blks x, b < w.heap.size ∧ b ∉ ownT bt bm vo vh vg
theorem Both.keep {w w' : World} {B bt bm : Nat} {vo vh vg : Value} {x : RfV} {t : Tr} {S : List Nat} (h : Both w B bt bm vo vh vg x t) (hk : Keeps S w w') (hi : KI w w') (hS : ∀ b ∈ S, b ∉ ownT bt bm vo vh vg ∧ b ∉ blks x) : Both w' B bt bm vo vh vg x t :=
  ⟨h.m.keep hk (fun b hb hs => (hS b hs).1 hb) hi, h.r.moved hk hi (fun b hb => (hS b hb).2), fun b hb => ⟨Nat.lt_of_lt_of_le (h.b b hb).1 hk.size, (h.b b hb).2⟩⟩
theorem Both.keeps {w w' : World} {B bt bm : Nat} {vo vh vg : Value} {x : RfV} {t : Tr} (h : Both w B bt bm vo vh vg x t) (hk : Keeps [] w w') : Both w' B bt bm vo vh vg x t := h.keep hk hk.ki0 (by simp)
/-- The specification's step, then the program's, then a store into a block of the step's own. -/
theorem Both.fin {w w0 w1 w2 w3 wE : World} {B bt bm Z : Nat} {vo vh vg vo' vh' vg' : Value} {x x' : RfV} {t t' : Tr} {cs : Array Value} (h : Both w B bt bm vo vh vg x t) (k0 : Keeps [] w w0) (k1 : Keeps [] w0 w1) (hR : RfR w1 x' t') (hF : Fsh w0 w1 x x')
    (k2 : Keeps [] w1 w2) (hT : TrM w3 B bt bm vo' vh' vg' t') (hM : Mv (ownT bt bm vo vh vg) (ownT bt bm vo' vh' vg') w2 w3) (k3 : Keeps [Z] w3 wE) (hZ : w.heap.size ≤ Z ∧ Z < w0.heap.size) (hZt : w3.heap[Z]? = some (.cells cs tR (0, 0))) :
    Both wE B bt bm vo' vh' vg' x' t' ∧ Mv (ownT bt bm vo vh vg) (ownT bt bm vo' vh' vg') w wE := by
  have s0 := k0.size
  have s1 := k1.size
  have s2 := k2.size
  have hown : ∀ b ∈ ownT bt bm vo vh vg, b < w.heap.size := fun b hb => (h.m.own_tag hb).2.1
  have hown' : ∀ b ∈ ownT bt bm vo' vh' vg', b < w.heap.size ∨ w2.heap.size ≤ b := fun b hb => (hM.s b hb).imp (hown b) id
  have hx' : ∀ b ∈ blks x', (b < w.heap.size ∧ b ∈ blks x) ∨ (w0.heap.size ≤ b ∧ b < w1.heap.size) := fun b hb => (hF b hb).imp (fun h1 => ⟨(h.b b h1).1, h1⟩) id
  have hsep : ∀ b ∈ ownT bt bm vo vh vg, b ∉ blks x' := fun b hb hx => by
    rcases hx' b hx with ⟨_, h2⟩ | ⟨h1, _⟩
    · exact (h.b b h2).2 hb
    · have := hown b hb; omega
  have hR3 : RfR w3 x' t' := (hR.keeps k2).moved hM.k hM.i hsep
  have hB3 : Both w3 B bt bm vo' vh' vg' x' t' := by
    refine ⟨hT, hR3, fun b hb => ⟨?_, fun ho => ?_⟩⟩
    · have := hM.k.size
      rcases hx' b hb with ⟨h1, _⟩ | ⟨_, h1⟩ <;> omega
    · rcases hM.s b ho with h1 | h1
      · exact hsep b h1 hb
      · rcases hx' b hb with ⟨h2, _⟩ | ⟨_, h2⟩ <;> omega
  have hi3 : KI w3 wE := k3.ki (fun b hb cs' f e => by
    simp only [List.mem_singleton] at hb
    subst hb
    rw [hZt] at e
    cases e)
  refine ⟨hB3.keep k3 hi3 (fun b hb => ?_), ?_⟩
  · simp only [List.mem_singleton] at hb
    subst hb
    refine ⟨fun ho => ?_, fun hx => ?_⟩
    · rcases hown' _ ho with h1 | h1 <;> omega
    · rcases hx' _ hx with ⟨h1, _⟩ | ⟨h1, _⟩ <;> omega
  · have hm : Mv (ownT bt bm vo vh vg) (ownT bt bm vo' vh' vg') w w3 := (Mv.nil ((k0.trans k1).trans k2)).trans hM
    exact ⟨hm.k.fresh k3 (fun b hb => by simp only [List.mem_singleton] at hb; subst hb; exact .inr hZ.1), hm.i.trans hi3, hm.s⟩
end Go.Proofs.YthfdngjbcgkkfaaGreat

namespace Go.Proofs.YthfdngjbcgkkfaaGreat
open Go.RowKit

theorem cl1 {w : World} {b : Nat} {x0 : Value} {t : TypeId} (h : w.heap[b]? = some (.cells #[x0] t (0, 0))) :
    w.cell? ⟨b, 0, none⟩ = some x0 ∧ (∀ o, w.frozen? ⟨b, o, none⟩ = false) ∧ b < w.heap.size := by
  refine ⟨?_, fun o => ?_, (Array.getElem?_eq_some_iff.1 h).1⟩ <;> simp [World.cell?, World.frozen?, h]
theorem cl2 {w : World} {b : Nat} {x0 x1 : Value} {t : TypeId} (h : w.heap[b]? = some (.cells #[x0, x1] t (0, 0))) :
    w.cell? ⟨b, 0, none⟩ = some x0 ∧ w.cell? ⟨b, 1, none⟩ = some x1 ∧ (∀ o, w.frozen? ⟨b, o, none⟩ = false) ∧ b < w.heap.size := by
  refine ⟨?_, ?_, fun o => ?_, (Array.getElem?_eq_some_iff.1 h).1⟩ <;> simp [World.cell?, World.frozen?, h]
theorem cl3 {w : World} {b : Nat} {x0 x1 x2 : Value} {t : TypeId} (h : w.heap[b]? = some (.cells #[x0, x1, x2] t (0, 0))) :
    w.cell? ⟨b, 0, none⟩ = some x0 ∧ w.cell? ⟨b, 1, none⟩ = some x1 ∧ w.cell? ⟨b, 2, none⟩ = some x2 ∧ (∀ o, w.frozen? ⟨b, o, none⟩ = false) ∧ b < w.heap.size := by
  refine ⟨?_, ?_, ?_, fun o => ?_, (Array.getElem?_eq_some_iff.1 h).1⟩ <;> simp [World.cell?, World.frozen?, h]
theorem cl4 {w : World} {b : Nat} {x0 x1 x2 x3 : Value} {t : TypeId} (h : w.heap[b]? = some (.cells #[x0, x1, x2, x3] t (0, 0))) :
    w.cell? ⟨b, 0, none⟩ = some x0 ∧ w.cell? ⟨b, 1, none⟩ = some x1 ∧ w.cell? ⟨b, 2, none⟩ = some x2 ∧ w.cell? ⟨b, 3, none⟩ = some x3 ∧ (∀ o, w.frozen? ⟨b, o, none⟩ = false) ∧ b < w.heap.size := by
  refine ⟨?_, ?_, ?_, ?_, fun o => ?_, (Array.getElem?_eq_some_iff.1 h).1⟩ <;> simp [World.cell?, World.frozen?, h]
theorem cl5 {w : World} {b : Nat} {x0 x1 x2 x3 x4 : Value} {t : TypeId} (h : w.heap[b]? = some (.cells #[x0, x1, x2, x3, x4] t (0, 0))) :
    w.cell? ⟨b, 0, none⟩ = some x0 ∧ w.cell? ⟨b, 1, none⟩ = some x1 ∧ w.cell? ⟨b, 2, none⟩ = some x2 ∧ w.cell? ⟨b, 3, none⟩ = some x3 ∧ w.cell? ⟨b, 4, none⟩ = some x4 ∧ (∀ o, w.frozen? ⟨b, o, none⟩ = false) ∧ b < w.heap.size := by
  refine ⟨?_, ?_, ?_, ?_, ?_, fun o => ?_, (Array.getElem?_eq_some_iff.1 h).1⟩ <;> simp [World.cell?, World.frozen?, h]
theorem cl6 {w : World} {b : Nat} {x0 x1 x2 x3 x4 x5 : Value} {t : TypeId} (h : w.heap[b]? = some (.cells #[x0, x1, x2, x3, x4, x5] t (0, 0))) :
    w.cell? ⟨b, 0, none⟩ = some x0 ∧ w.cell? ⟨b, 1, none⟩ = some x1 ∧ w.cell? ⟨b, 2, none⟩ = some x2 ∧ w.cell? ⟨b, 3, none⟩ = some x3 ∧ w.cell? ⟨b, 4, none⟩ = some x4 ∧ w.cell? ⟨b, 5, none⟩ = some x5 ∧ (∀ o, w.frozen? ⟨b, o, none⟩ = false) ∧ b < w.heap.size := by
  refine ⟨?_, ?_, ?_, ?_, ?_, ?_, fun o => ?_, (Array.getElem?_eq_some_iff.1 h).1⟩ <;> simp [World.cell?, World.frozen?, h]
theorem cl7 {w : World} {b : Nat} {x0 x1 x2 x3 x4 x5 x6 : Value} {t : TypeId} (h : w.heap[b]? = some (.cells #[x0, x1, x2, x3, x4, x5, x6] t (0, 0))) :
    w.cell? ⟨b, 0, none⟩ = some x0 ∧ w.cell? ⟨b, 1, none⟩ = some x1 ∧ w.cell? ⟨b, 2, none⟩ = some x2 ∧ w.cell? ⟨b, 3, none⟩ = some x3 ∧ w.cell? ⟨b, 4, none⟩ = some x4 ∧ w.cell? ⟨b, 5, none⟩ = some x5 ∧ w.cell? ⟨b, 6, none⟩ = some x6 ∧ (∀ o, w.frozen? ⟨b, o, none⟩ = false) ∧ b < w.heap.size := by
  refine ⟨?_, ?_, ?_, ?_, ?_, ?_, ?_, fun o => ?_, (Array.getElem?_eq_some_iff.1 h).1⟩ <;> simp [World.cell?, World.frozen?, h]
theorem cl8 {w : World} {b : Nat} {x0 x1 x2 x3 x4 x5 x6 x7 : Value} {t : TypeId} (h : w.heap[b]? = some (.cells #[x0, x1, x2, x3, x4, x5, x6, x7] t (0, 0))) :
    w.cell? ⟨b, 0, none⟩ = some x0 ∧ w.cell? ⟨b, 1, none⟩ = some x1 ∧ w.cell? ⟨b, 2, none⟩ = some x2 ∧ w.cell? ⟨b, 3, none⟩ = some x3 ∧ w.cell? ⟨b, 4, none⟩ = some x4 ∧ w.cell? ⟨b, 5, none⟩ = some x5 ∧ w.cell? ⟨b, 6, none⟩ = some x6 ∧ w.cell? ⟨b, 7, none⟩ = some x7 ∧ (∀ o, w.frozen? ⟨b, o, none⟩ = false) ∧ b < w.heap.size := by
  refine ⟨?_, ?_, ?_, ?_, ?_, ?_, ?_, ?_, fun o => ?_, (Array.getElem?_eq_some_iff.1 h).1⟩ <;> simp [World.cell?, World.frozen?, h]
theorem cl9 {w : World} {b : Nat} {x0 x1 x2 x3 x4 x5 x6 x7 x8 : Value} {t : TypeId} (h : w.heap[b]? = some (.cells #[x0, x1, x2, x3, x4, x5, x6, x7, x8] t (0, 0))) :
    w.cell? ⟨b, 0, none⟩ = some x0 ∧ w.cell? ⟨b, 1, none⟩ = some x1 ∧ w.cell? ⟨b, 2, none⟩ = some x2 ∧ w.cell? ⟨b, 3, none⟩ = some x3 ∧ w.cell? ⟨b, 4, none⟩ = some x4 ∧ w.cell? ⟨b, 5, none⟩ = some x5 ∧ w.cell? ⟨b, 6, none⟩ = some x6 ∧ w.cell? ⟨b, 7, none⟩ = some x7 ∧ w.cell? ⟨b, 8, none⟩ = some x8 ∧ (∀ o, w.frozen? ⟨b, o, none⟩ = false) ∧ b < w.heap.size := by
  refine ⟨?_, ?_, ?_, ?_, ?_, ?_, ?_, ?_, ?_, fun o => ?_, (Array.getElem?_eq_some_iff.1 h).1⟩ <;> simp [World.cell?, World.frozen?, h]
theorem cl10 {w : World} {b : Nat} {x0 x1 x2 x3 x4 x5 x6 x7 x8 x9 : Value} {t : TypeId} (h : w.heap[b]? = some (.cells #[x0, x1, x2, x3, x4, x5, x6, x7, x8, x9] t (0, 0))) :
    w.cell? ⟨b, 0, none⟩ = some x0 ∧ w.cell? ⟨b, 1, none⟩ = some x1 ∧ w.cell? ⟨b, 2, none⟩ = some x2 ∧ w.cell? ⟨b, 3, none⟩ = some x3 ∧ w.cell? ⟨b, 4, none⟩ = some x4 ∧ w.cell? ⟨b, 5, none⟩ = some x5 ∧ w.cell? ⟨b, 6, none⟩ = some x6 ∧ w.cell? ⟨b, 7, none⟩ = some x7 ∧ w.cell? ⟨b, 8, none⟩ = some x8 ∧ w.cell? ⟨b, 9, none⟩ = some x9 ∧ (∀ o, w.frozen? ⟨b, o, none⟩ = false) ∧ b < w.heap.size := by
  refine ⟨?_, ?_, ?_, ?_, ?_, ?_, ?_, ?_, ?_, ?_, fun o => ?_, (Array.getElem?_eq_some_iff.1 h).1⟩ <;> simp [World.cell?, World.frozen?, h]
theorem cl11 {w : World} {b : Nat} {x0 x1 x2 x3 x4 x5 x6 x7 x8 x9 x10 : Value} {t : TypeId} (h : w.heap[b]? = some (.cells #[x0, x1, x2, x3, x4, x5, x6, x7, x8, x9, x10] t (0, 0))) :
    w.cell? ⟨b, 0, none⟩ = some x0 ∧ w.cell? ⟨b, 1, none⟩ = some x1 ∧ w.cell? ⟨b, 2, none⟩ = some x2 ∧ w.cell? ⟨b, 3, none⟩ = some x3 ∧ w.cell? ⟨b, 4, none⟩ = some x4 ∧ w.cell? ⟨b, 5, none⟩ = some x5 ∧ w.cell? ⟨b, 6, none⟩ = some x6 ∧ w.cell? ⟨b, 7, none⟩ = some x7 ∧ w.cell? ⟨b, 8, none⟩ = some x8 ∧ w.cell? ⟨b, 9, none⟩ = some x9 ∧ w.cell? ⟨b, 10, none⟩ = some x10 ∧ (∀ o, w.frozen? ⟨b, o, none⟩ = false) ∧ b < w.heap.size := by
  refine ⟨?_, ?_, ?_, ?_, ?_, ?_, ?_, ?_, ?_, ?_, ?_, fun o => ?_, (Array.getElem?_eq_some_iff.1 h).1⟩ <;> simp [World.cell?, World.frozen?, h]
theorem cl12 {w : World} {b : Nat} {x0 x1 x2 x3 x4 x5 x6 x7 x8 x9 x10 x11 : Value} {t : TypeId} (h : w.heap[b]? = some (.cells #[x0, x1, x2, x3, x4, x5, x6, x7, x8, x9, x10, x11] t (0, 0))) :
    w.cell? ⟨b, 0, none⟩ = some x0 ∧ w.cell? ⟨b, 1, none⟩ = some x1 ∧ w.cell? ⟨b, 2, none⟩ = some x2 ∧ w.cell? ⟨b, 3, none⟩ = some x3 ∧ w.cell? ⟨b, 4, none⟩ = some x4 ∧ w.cell? ⟨b, 5, none⟩ = some x5 ∧ w.cell? ⟨b, 6, none⟩ = some x6 ∧ w.cell? ⟨b, 7, none⟩ = some x7 ∧ w.cell? ⟨b, 8, none⟩ = some x8 ∧ w.cell? ⟨b, 9, none⟩ = some x9 ∧ w.cell? ⟨b, 10, none⟩ = some x10 ∧ w.cell? ⟨b, 11, none⟩ = some x11 ∧ (∀ o, w.frozen? ⟨b, o, none⟩ = false) ∧ b < w.heap.size := by
  refine ⟨?_, ?_, ?_, ?_, ?_, ?_, ?_, ?_, ?_, ?_, ?_, ?_, fun o => ?_, (Array.getElem?_eq_some_iff.1 h).1⟩ <;> simp [World.cell?, World.frozen?, h]
theorem cl13 {w : World} {b : Nat} {x0 x1 x2 x3 x4 x5 x6 x7 x8 x9 x10 x11 x12 : Value} {t : TypeId} (h : w.heap[b]? = some (.cells #[x0, x1, x2, x3, x4, x5, x6, x7, x8, x9, x10, x11, x12] t (0, 0))) :
    w.cell? ⟨b, 0, none⟩ = some x0 ∧ w.cell? ⟨b, 1, none⟩ = some x1 ∧ w.cell? ⟨b, 2, none⟩ = some x2 ∧ w.cell? ⟨b, 3, none⟩ = some x3 ∧ w.cell? ⟨b, 4, none⟩ = some x4 ∧ w.cell? ⟨b, 5, none⟩ = some x5 ∧ w.cell? ⟨b, 6, none⟩ = some x6 ∧ w.cell? ⟨b, 7, none⟩ = some x7 ∧ w.cell? ⟨b, 8, none⟩ = some x8 ∧ w.cell? ⟨b, 9, none⟩ = some x9 ∧ w.cell? ⟨b, 10, none⟩ = some x10 ∧ w.cell? ⟨b, 11, none⟩ = some x11 ∧ w.cell? ⟨b, 12, none⟩ = some x12 ∧ (∀ o, w.frozen? ⟨b, o, none⟩ = false) ∧ b < w.heap.size := by
  refine ⟨?_, ?_, ?_, ?_, ?_, ?_, ?_, ?_, ?_, ?_, ?_, ?_, ?_, fun o => ?_, (Array.getElem?_eq_some_iff.1 h).1⟩ <;> simp [World.cell?, World.frozen?, h]
theorem cl14 {w : World} {b : Nat} {x0 x1 x2 x3 x4 x5 x6 x7 x8 x9 x10 x11 x12 x13 : Value} {t : TypeId} (h : w.heap[b]? = some (.cells #[x0, x1, x2, x3, x4, x5, x6, x7, x8, x9, x10, x11, x12, x13] t (0, 0))) :
    w.cell? ⟨b, 0, none⟩ = some x0 ∧ w.cell? ⟨b, 1, none⟩ = some x1 ∧ w.cell? ⟨b, 2, none⟩ = some x2 ∧ w.cell? ⟨b, 3, none⟩ = some x3 ∧ w.cell? ⟨b, 4, none⟩ = some x4 ∧ w.cell? ⟨b, 5, none⟩ = some x5 ∧ w.cell? ⟨b, 6, none⟩ = some x6 ∧ w.cell? ⟨b, 7, none⟩ = some x7 ∧ w.cell? ⟨b, 8, none⟩ = some x8 ∧ w.cell? ⟨b, 9, none⟩ = some x9 ∧ w.cell? ⟨b, 10, none⟩ = some x10 ∧ w.cell? ⟨b, 11, none⟩ = some x11 ∧ w.cell? ⟨b, 12, none⟩ = some x12 ∧ w.cell? ⟨b, 13, none⟩ = some x13 ∧ (∀ o, w.frozen? ⟨b, o, none⟩ = false) ∧ b < w.heap.size := by
  refine ⟨?_, ?_, ?_, ?_, ?_, ?_, ?_, ?_, ?_, ?_, ?_, ?_, ?_, ?_, fun o => ?_, (Array.getElem?_eq_some_iff.1 h).1⟩ <;> simp [World.cell?, World.frozen?, h]
theorem blks2 (w : World) (A0 A1 : Obj) : ((w.alloc A0).alloc A1).heap[w.heap.size]? = some A0 ∧ ((w.alloc A0).alloc A1).heap[w.heap.size + 1]? = some A1 ∧ Keeps [] w ((w.alloc A0).alloc A1) ∧ ((w.alloc A0).alloc A1).heap.size = w.heap.size + 1 + 1 := by
  have h0 := heap_alloc_new w A0
  have h1 := heap_alloc_new (w.alloc A0) A1
  rw [show (w.alloc A0).heap.size = w.heap.size + 1 by simp] at h1
  exact ⟨(((Keeps.refl [] (w.alloc A0)).alloc A1).block _ (Array.getElem?_eq_some_iff.1 h0).1 (by simp)).trans h0, ((Keeps.refl [] ((w.alloc A0).alloc A1)).block _ (Array.getElem?_eq_some_iff.1 h1).1 (by simp)).trans h1, (((Keeps.refl [] w).alloc A0).alloc A1), by simp⟩
theorem blks3 (w : World) (A0 A1 A2 : Obj) : (((w.alloc A0).alloc A1).alloc A2).heap[w.heap.size]? = some A0 ∧ (((w.alloc A0).alloc A1).alloc A2).heap[w.heap.size + 1]? = some A1 ∧ (((w.alloc A0).alloc A1).alloc A2).heap[w.heap.size + 1 + 1]? = some A2 ∧ Keeps [] w (((w.alloc A0).alloc A1).alloc A2) ∧ (((w.alloc A0).alloc A1).alloc A2).heap.size = w.heap.size + 1 + 1 + 1 := by
  have h0 := heap_alloc_new w A0
  have h1 := heap_alloc_new (w.alloc A0) A1
  rw [show (w.alloc A0).heap.size = w.heap.size + 1 by simp] at h1
  have h2 := heap_alloc_new ((w.alloc A0).alloc A1) A2
  rw [show ((w.alloc A0).alloc A1).heap.size = w.heap.size + 1 + 1 by simp] at h2
  exact ⟨((((Keeps.refl [] (w.alloc A0)).alloc A1).alloc A2).block _ (Array.getElem?_eq_some_iff.1 h0).1 (by simp)).trans h0, (((Keeps.refl [] ((w.alloc A0).alloc A1)).alloc A2).block _ (Array.getElem?_eq_some_iff.1 h1).1 (by simp)).trans h1, ((Keeps.refl [] (((w.alloc A0).alloc A1).alloc A2)).block _ (Array.getElem?_eq_some_iff.1 h2).1 (by simp)).trans h2, ((((Keeps.refl [] w).alloc A0).alloc A1).alloc A2), by simp⟩
theorem blks4 (w : World) (A0 A1 A2 A3 : Obj) : ((((w.alloc A0).alloc A1).alloc A2).alloc A3).heap[w.heap.size]? = some A0 ∧ ((((w.alloc A0).alloc A1).alloc A2).alloc A3).heap[w.heap.size + 1]? = some A1 ∧ ((((w.alloc A0).alloc A1).alloc A2).alloc A3).heap[w.heap.size + 1 + 1]? = some A2 ∧ ((((w.alloc A0).alloc A1).alloc A2).alloc A3).heap[w.heap.size + 1 + 1 + 1]? = some A3 ∧ Keeps [] w ((((w.alloc A0).alloc A1).alloc A2).alloc A3) ∧ ((((w.alloc A0).alloc A1).alloc A2).alloc A3).heap.size = w.heap.size + 1 + 1 + 1 + 1 := by
  have h0 := heap_alloc_new w A0
  have h1 := heap_alloc_new (w.alloc A0) A1
  rw [show (w.alloc A0).heap.size = w.heap.size + 1 by simp] at h1
  have h2 := heap_alloc_new ((w.alloc A0).alloc A1) A2
  rw [show ((w.alloc A0).alloc A1).heap.size = w.heap.size + 1 + 1 by simp] at h2
  have h3 := heap_alloc_new (((w.alloc A0).alloc A1).alloc A2) A3
  rw [show (((w.alloc A0).alloc A1).alloc A2).heap.size = w.heap.size + 1 + 1 + 1 by simp] at h3
  exact ⟨(((((Keeps.refl [] (w.alloc A0)).alloc A1).alloc A2).alloc A3).block _ (Array.getElem?_eq_some_iff.1 h0).1 (by simp)).trans h0, ((((Keeps.refl [] ((w.alloc A0).alloc A1)).alloc A2).alloc A3).block _ (Array.getElem?_eq_some_iff.1 h1).1 (by simp)).trans h1, (((Keeps.refl [] (((w.alloc A0).alloc A1).alloc A2)).alloc A3).block _ (Array.getElem?_eq_some_iff.1 h2).1 (by simp)).trans h2, ((Keeps.refl [] ((((w.alloc A0).alloc A1).alloc A2).alloc A3)).block _ (Array.getElem?_eq_some_iff.1 h3).1 (by simp)).trans h3, (((((Keeps.refl [] w).alloc A0).alloc A1).alloc A2).alloc A3), by simp⟩
theorem blks5 (w : World) (A0 A1 A2 A3 A4 : Obj) : (((((w.alloc A0).alloc A1).alloc A2).alloc A3).alloc A4).heap[w.heap.size]? = some A0 ∧ (((((w.alloc A0).alloc A1).alloc A2).alloc A3).alloc A4).heap[w.heap.size + 1]? = some A1 ∧ (((((w.alloc A0).alloc A1).alloc A2).alloc A3).alloc A4).heap[w.heap.size + 1 + 1]? = some A2 ∧ (((((w.alloc A0).alloc A1).alloc A2).alloc A3).alloc A4).heap[w.heap.size + 1 + 1 + 1]? = some A3 ∧ (((((w.alloc A0).alloc A1).alloc A2).alloc A3).alloc A4).heap[w.heap.size + 1 + 1 + 1 + 1]? = some A4 ∧ Keeps [] w (((((w.alloc A0).alloc A1).alloc A2).alloc A3).alloc A4) ∧ (((((w.alloc A0).alloc A1).alloc A2).alloc A3).alloc A4).heap.size = w.heap.size + 1 + 1 + 1 + 1 + 1 := by
  have h0 := heap_alloc_new w A0
  have h1 := heap_alloc_new (w.alloc A0) A1
  rw [show (w.alloc A0).heap.size = w.heap.size + 1 by simp] at h1
  have h2 := heap_alloc_new ((w.alloc A0).alloc A1) A2
  rw [show ((w.alloc A0).alloc A1).heap.size = w.heap.size + 1 + 1 by simp] at h2
  have h3 := heap_alloc_new (((w.alloc A0).alloc A1).alloc A2) A3
  rw [show (((w.alloc A0).alloc A1).alloc A2).heap.size = w.heap.size + 1 + 1 + 1 by simp] at h3
  have h4 := heap_alloc_new ((((w.alloc A0).alloc A1).alloc A2).alloc A3) A4
  rw [show ((((w.alloc A0).alloc A1).alloc A2).alloc A3).heap.size = w.heap.size + 1 + 1 + 1 + 1 by simp] at h4
  exact ⟨((((((Keeps.refl [] (w.alloc A0)).alloc A1).alloc A2).alloc A3).alloc A4).block _ (Array.getElem?_eq_some_iff.1 h0).1 (by simp)).trans h0, (((((Keeps.refl [] ((w.alloc A0).alloc A1)).alloc A2).alloc A3).alloc A4).block _ (Array.getElem?_eq_some_iff.1 h1).1 (by simp)).trans h1, ((((Keeps.refl [] (((w.alloc A0).alloc A1).alloc A2)).alloc A3).alloc A4).block _ (Array.getElem?_eq_some_iff.1 h2).1 (by simp)).trans h2, (((Keeps.refl [] ((((w.alloc A0).alloc A1).alloc A2).alloc A3)).alloc A4).block _ (Array.getElem?_eq_some_iff.1 h3).1 (by simp)).trans h3, ((Keeps.refl [] (((((w.alloc A0).alloc A1).alloc A2).alloc A3).alloc A4)).block _ (Array.getElem?_eq_some_iff.1 h4).1 (by simp)).trans h4, ((((((Keeps.refl [] w).alloc A0).alloc A1).alloc A2).alloc A3).alloc A4), by simp⟩
theorem sc2 {w : World} {X : Nat} {t : TypeId} {y0 y1 : Value} (x0 x1 : Value) (h : w.heap[X]? = some (.cells #[y0, y1] t (0, 0))) : ((w.setCell ⟨X, 0, none⟩ x0).setCell ⟨X, 1, none⟩ x1).heap[X]? = some (.cells #[x0, x1] t (0, 0)) ∧ Keeps [X] w ((w.setCell ⟨X, 0, none⟩ x0).setCell ⟨X, 1, none⟩ x1) := by
  refine ⟨by simp [World.setCell, Array.getElem?_modify, h], ?_⟩
  refine ((Keeps.refl _ w).setCell ?_ _).setCell ?_ _ <;> exact .inr (by simp)
theorem sc3 {w : World} {X : Nat} {t : TypeId} {y0 y1 y2 : Value} (x0 x1 x2 : Value) (h : w.heap[X]? = some (.cells #[y0, y1, y2] t (0, 0))) : (((w.setCell ⟨X, 0, none⟩ x0).setCell ⟨X, 1, none⟩ x1).setCell ⟨X, 2, none⟩ x2).heap[X]? = some (.cells #[x0, x1, x2] t (0, 0)) ∧ Keeps [X] w (((w.setCell ⟨X, 0, none⟩ x0).setCell ⟨X, 1, none⟩ x1).setCell ⟨X, 2, none⟩ x2) := by
  refine ⟨by simp [World.setCell, Array.getElem?_modify, h], ?_⟩
  refine (((Keeps.refl _ w).setCell ?_ _).setCell ?_ _).setCell ?_ _ <;> exact .inr (by simp)
theorem sc4 {w : World} {X : Nat} {t : TypeId} {y0 y1 y2 y3 : Value} (x0 x1 x2 x3 : Value) (h : w.heap[X]? = some (.cells #[y0, y1, y2, y3] t (0, 0))) : ((((w.setCell ⟨X, 0, none⟩ x0).setCell ⟨X, 1, none⟩ x1).setCell ⟨X, 2, none⟩ x2).setCell ⟨X, 3, none⟩ x3).heap[X]? = some (.cells #[x0, x1, x2, x3] t (0, 0)) ∧ Keeps [X] w ((((w.setCell ⟨X, 0, none⟩ x0).setCell ⟨X, 1, none⟩ x1).setCell ⟨X, 2, none⟩ x2).setCell ⟨X, 3, none⟩ x3) := by
  refine ⟨by simp [World.setCell, Array.getElem?_modify, h], ?_⟩
  refine ((((Keeps.refl _ w).setCell ?_ _).setCell ?_ _).setCell ?_ _).setCell ?_ _ <;> exact .inr (by simp)
theorem sc5 {w : World} {X : Nat} {t : TypeId} {y0 y1 y2 y3 y4 : Value} (x0 x1 x2 x3 x4 : Value) (h : w.heap[X]? = some (.cells #[y0, y1, y2, y3, y4] t (0, 0))) : (((((w.setCell ⟨X, 0, none⟩ x0).setCell ⟨X, 1, none⟩ x1).setCell ⟨X, 2, none⟩ x2).setCell ⟨X, 3, none⟩ x3).setCell ⟨X, 4, none⟩ x4).heap[X]? = some (.cells #[x0, x1, x2, x3, x4] t (0, 0)) ∧ Keeps [X] w (((((w.setCell ⟨X, 0, none⟩ x0).setCell ⟨X, 1, none⟩ x1).setCell ⟨X, 2, none⟩ x2).setCell ⟨X, 3, none⟩ x3).setCell ⟨X, 4, none⟩ x4) := by
  refine ⟨by simp [World.setCell, Array.getElem?_modify, h], ?_⟩
  refine (((((Keeps.refl _ w).setCell ?_ _).setCell ?_ _).setCell ?_ _).setCell ?_ _).setCell ?_ _ <;> exact .inr (by simp)
theorem sc6 {w : World} {X : Nat} {t : TypeId} {y0 y1 y2 y3 y4 y5 : Value} (x0 x1 x2 x3 x4 x5 : Value) (h : w.heap[X]? = some (.cells #[y0, y1, y2, y3, y4, y5] t (0, 0))) : ((((((w.setCell ⟨X, 0, none⟩ x0).setCell ⟨X, 1, none⟩ x1).setCell ⟨X, 2, none⟩ x2).setCell ⟨X, 3, none⟩ x3).setCell ⟨X, 4, none⟩ x4).setCell ⟨X, 5, none⟩ x5).heap[X]? = some (.cells #[x0, x1, x2, x3, x4, x5] t (0, 0)) ∧ Keeps [X] w ((((((w.setCell ⟨X, 0, none⟩ x0).setCell ⟨X, 1, none⟩ x1).setCell ⟨X, 2, none⟩ x2).setCell ⟨X, 3, none⟩ x3).setCell ⟨X, 4, none⟩ x4).setCell ⟨X, 5, none⟩ x5) := by
  refine ⟨by simp [World.setCell, Array.getElem?_modify, h], ?_⟩
  refine ((((((Keeps.refl _ w).setCell ?_ _).setCell ?_ _).setCell ?_ _).setCell ?_ _).setCell ?_ _).setCell ?_ _ <;> exact .inr (by simp)
theorem sc7 {w : World} {X : Nat} {t : TypeId} {y0 y1 y2 y3 y4 y5 y6 : Value} (x0 x1 x2 x3 x4 x5 x6 : Value) (h : w.heap[X]? = some (.cells #[y0, y1, y2, y3, y4, y5, y6] t (0, 0))) : (((((((w.setCell ⟨X, 0, none⟩ x0).setCell ⟨X, 1, none⟩ x1).setCell ⟨X, 2, none⟩ x2).setCell ⟨X, 3, none⟩ x3).setCell ⟨X, 4, none⟩ x4).setCell ⟨X, 5, none⟩ x5).setCell ⟨X, 6, none⟩ x6).heap[X]? = some (.cells #[x0, x1, x2, x3, x4, x5, x6] t (0, 0)) ∧ Keeps [X] w (((((((w.setCell ⟨X, 0, none⟩ x0).setCell ⟨X, 1, none⟩ x1).setCell ⟨X, 2, none⟩ x2).setCell ⟨X, 3, none⟩ x3).setCell ⟨X, 4, none⟩ x4).setCell ⟨X, 5, none⟩ x5).setCell ⟨X, 6, none⟩ x6) := by
  refine ⟨by simp [World.setCell, Array.getElem?_modify, h], ?_⟩
  refine (((((((Keeps.refl _ w).setCell ?_ _).setCell ?_ _).setCell ?_ _).setCell ?_ _).setCell ?_ _).setCell ?_ _).setCell ?_ _ <;> exact .inr (by simp)
theorem sc8 {w : World} {X : Nat} {t : TypeId} {y0 y1 y2 y3 y4 y5 y6 y7 : Value} (x0 x1 x2 x3 x4 x5 x6 x7 : Value) (h : w.heap[X]? = some (.cells #[y0, y1, y2, y3, y4, y5, y6, y7] t (0, 0))) : ((((((((w.setCell ⟨X, 0, none⟩ x0).setCell ⟨X, 1, none⟩ x1).setCell ⟨X, 2, none⟩ x2).setCell ⟨X, 3, none⟩ x3).setCell ⟨X, 4, none⟩ x4).setCell ⟨X, 5, none⟩ x5).setCell ⟨X, 6, none⟩ x6).setCell ⟨X, 7, none⟩ x7).heap[X]? = some (.cells #[x0, x1, x2, x3, x4, x5, x6, x7] t (0, 0)) ∧ Keeps [X] w ((((((((w.setCell ⟨X, 0, none⟩ x0).setCell ⟨X, 1, none⟩ x1).setCell ⟨X, 2, none⟩ x2).setCell ⟨X, 3, none⟩ x3).setCell ⟨X, 4, none⟩ x4).setCell ⟨X, 5, none⟩ x5).setCell ⟨X, 6, none⟩ x6).setCell ⟨X, 7, none⟩ x7) := by
  refine ⟨by simp [World.setCell, Array.getElem?_modify, h], ?_⟩
  refine ((((((((Keeps.refl _ w).setCell ?_ _).setCell ?_ _).setCell ?_ _).setCell ?_ _).setCell ?_ _).setCell ?_ _).setCell ?_ _).setCell ?_ _ <;> exact .inr (by simp)
theorem sc9 {w : World} {X : Nat} {t : TypeId} {y0 y1 y2 y3 y4 y5 y6 y7 y8 : Value} (x0 x1 x2 x3 x4 x5 x6 x7 x8 : Value) (h : w.heap[X]? = some (.cells #[y0, y1, y2, y3, y4, y5, y6, y7, y8] t (0, 0))) : (((((((((w.setCell ⟨X, 0, none⟩ x0).setCell ⟨X, 1, none⟩ x1).setCell ⟨X, 2, none⟩ x2).setCell ⟨X, 3, none⟩ x3).setCell ⟨X, 4, none⟩ x4).setCell ⟨X, 5, none⟩ x5).setCell ⟨X, 6, none⟩ x6).setCell ⟨X, 7, none⟩ x7).setCell ⟨X, 8, none⟩ x8).heap[X]? = some (.cells #[x0, x1, x2, x3, x4, x5, x6, x7, x8] t (0, 0)) ∧ Keeps [X] w (((((((((w.setCell ⟨X, 0, none⟩ x0).setCell ⟨X, 1, none⟩ x1).setCell ⟨X, 2, none⟩ x2).setCell ⟨X, 3, none⟩ x3).setCell ⟨X, 4, none⟩ x4).setCell ⟨X, 5, none⟩ x5).setCell ⟨X, 6, none⟩ x6).setCell ⟨X, 7, none⟩ x7).setCell ⟨X, 8, none⟩ x8) := by
  refine ⟨by simp [World.setCell, Array.getElem?_modify, h], ?_⟩
  refine (((((((((Keeps.refl _ w).setCell ?_ _).setCell ?_ _).setCell ?_ _).setCell ?_ _).setCell ?_ _).setCell ?_ _).setCell ?_ _).setCell ?_ _).setCell ?_ _ <;> exact .inr (by simp)
theorem sc10 {w : World} {X : Nat} {t : TypeId} {y0 y1 y2 y3 y4 y5 y6 y7 y8 y9 : Value} (x0 x1 x2 x3 x4 x5 x6 x7 x8 x9 : Value) (h : w.heap[X]? = some (.cells #[y0, y1, y2, y3, y4, y5, y6, y7, y8, y9] t (0, 0))) : ((((((((((w.setCell ⟨X, 0, none⟩ x0).setCell ⟨X, 1, none⟩ x1).setCell ⟨X, 2, none⟩ x2).setCell ⟨X, 3, none⟩ x3).setCell ⟨X, 4, none⟩ x4).setCell ⟨X, 5, none⟩ x5).setCell ⟨X, 6, none⟩ x6).setCell ⟨X, 7, none⟩ x7).setCell ⟨X, 8, none⟩ x8).setCell ⟨X, 9, none⟩ x9).heap[X]? = some (.cells #[x0, x1, x2, x3, x4, x5, x6, x7, x8, x9] t (0, 0)) ∧ Keeps [X] w ((((((((((w.setCell ⟨X, 0, none⟩ x0).setCell ⟨X, 1, none⟩ x1).setCell ⟨X, 2, none⟩ x2).setCell ⟨X, 3, none⟩ x3).setCell ⟨X, 4, none⟩ x4).setCell ⟨X, 5, none⟩ x5).setCell ⟨X, 6, none⟩ x6).setCell ⟨X, 7, none⟩ x7).setCell ⟨X, 8, none⟩ x8).setCell ⟨X, 9, none⟩ x9) := by
  refine ⟨by simp [World.setCell, Array.getElem?_modify, h], ?_⟩
  refine ((((((((((Keeps.refl _ w).setCell ?_ _).setCell ?_ _).setCell ?_ _).setCell ?_ _).setCell ?_ _).setCell ?_ _).setCell ?_ _).setCell ?_ _).setCell ?_ _).setCell ?_ _ <;> exact .inr (by simp)
theorem sc11 {w : World} {X : Nat} {t : TypeId} {y0 y1 y2 y3 y4 y5 y6 y7 y8 y9 y10 : Value} (x0 x1 x2 x3 x4 x5 x6 x7 x8 x9 x10 : Value) (h : w.heap[X]? = some (.cells #[y0, y1, y2, y3, y4, y5, y6, y7, y8, y9, y10] t (0, 0))) : (((((((((((w.setCell ⟨X, 0, none⟩ x0).setCell ⟨X, 1, none⟩ x1).setCell ⟨X, 2, none⟩ x2).setCell ⟨X, 3, none⟩ x3).setCell ⟨X, 4, none⟩ x4).setCell ⟨X, 5, none⟩ x5).setCell ⟨X, 6, none⟩ x6).setCell ⟨X, 7, none⟩ x7).setCell ⟨X, 8, none⟩ x8).setCell ⟨X, 9, none⟩ x9).setCell ⟨X, 10, none⟩ x10).heap[X]? = some (.cells #[x0, x1, x2, x3, x4, x5, x6, x7, x8, x9, x10] t (0, 0)) ∧ Keeps [X] w (((((((((((w.setCell ⟨X, 0, none⟩ x0).setCell ⟨X, 1, none⟩ x1).setCell ⟨X, 2, none⟩ x2).setCell ⟨X, 3, none⟩ x3).setCell ⟨X, 4, none⟩ x4).setCell ⟨X, 5, none⟩ x5).setCell ⟨X, 6, none⟩ x6).setCell ⟨X, 7, none⟩ x7).setCell ⟨X, 8, none⟩ x8).setCell ⟨X, 9, none⟩ x9).setCell ⟨X, 10, none⟩ x10) := by
  refine ⟨by simp [World.setCell, Array.getElem?_modify, h], ?_⟩
  refine (((((((((((Keeps.refl _ w).setCell ?_ _).setCell ?_ _).setCell ?_ _).setCell ?_ _).setCell ?_ _).setCell ?_ _).setCell ?_ _).setCell ?_ _).setCell ?_ _).setCell ?_ _).setCell ?_ _ <;> exact .inr (by simp)
theorem sc12 {w : World} {X : Nat} {t : TypeId} {y0 y1 y2 y3 y4 y5 y6 y7 y8 y9 y10 y11 : Value} (x0 x1 x2 x3 x4 x5 x6 x7 x8 x9 x10 x11 : Value) (h : w.heap[X]? = some (.cells #[y0, y1, y2, y3, y4, y5, y6, y7, y8, y9, y10, y11] t (0, 0))) : ((((((((((((w.setCell ⟨X, 0, none⟩ x0).setCell ⟨X, 1, none⟩ x1).setCell ⟨X, 2, none⟩ x2).setCell ⟨X, 3, none⟩ x3).setCell ⟨X, 4, none⟩ x4).setCell ⟨X, 5, none⟩ x5).setCell ⟨X, 6, none⟩ x6).setCell ⟨X, 7, none⟩ x7).setCell ⟨X, 8, none⟩ x8).setCell ⟨X, 9, none⟩ x9).setCell ⟨X, 10, none⟩ x10).setCell ⟨X, 11, none⟩ x11).heap[X]? = some (.cells #[x0, x1, x2, x3, x4, x5, x6, x7, x8, x9, x10, x11] t (0, 0)) ∧ Keeps [X] w ((((((((((((w.setCell ⟨X, 0, none⟩ x0).setCell ⟨X, 1, none⟩ x1).setCell ⟨X, 2, none⟩ x2).setCell ⟨X, 3, none⟩ x3).setCell ⟨X, 4, none⟩ x4).setCell ⟨X, 5, none⟩ x5).setCell ⟨X, 6, none⟩ x6).setCell ⟨X, 7, none⟩ x7).setCell ⟨X, 8, none⟩ x8).setCell ⟨X, 9, none⟩ x9).setCell ⟨X, 10, none⟩ x10).setCell ⟨X, 11, none⟩ x11) := by
  refine ⟨by simp [World.setCell, Array.getElem?_modify, h], ?_⟩
  refine ((((((((((((Keeps.refl _ w).setCell ?_ _).setCell ?_ _).setCell ?_ _).setCell ?_ _).setCell ?_ _).setCell ?_ _).setCell ?_ _).setCell ?_ _).setCell ?_ _).setCell ?_ _).setCell ?_ _).setCell ?_ _ <;> exact .inr (by simp)
end Go.Proofs.YthfdngjbcgkkfaaGreat

namespace Go.Proofs.YthfdngjbcgkkfaaGreat
open Go Go.RowKit

def opV (o : Op3) (y : AnV) : Value := .agg #[.int .u8 o.k, .int .i64 o.i, .bool o.near, .int .i64 y.m, .int .i64 y.ow, .int .u64 y.n, .int .i64 y.ep, .bool y.kn, .bool y.rt, .int .i64 y.lu, y.v]
theorem sc3a {w : World} {X : Nat} {t : TypeId} {y0 y1 y2 y3 y4 y5 y6 y7 : Value} (x0 x1 x2 : Value) (h : w.heap[X]? = some (.cells #[y0, y1, y2, y3, y4, y5, y6, y7] t (0, 0))) :
    (((w.setCell ⟨X, 0, none⟩ x0).setCell ⟨X, 1, none⟩ x1).setCell ⟨X, 2, none⟩ x2).heap[X]? = some (.cells #[x0, x1, x2, y3, y4, y5, y6, y7] t (0, 0)) ∧ Keeps [X] w (((w.setCell ⟨X, 0, none⟩ x0).setCell ⟨X, 1, none⟩ x1).setCell ⟨X, 2, none⟩ x2) := by
  refine ⟨by simp [World.setCell, Array.getElem?_modify, h], ?_⟩
  refine (((Keeps.refl _ w).setCell ?_ _).setCell ?_ _).setCell ?_ _ <;> exact .inr (by simp)
def AimPost (w : World) (t : Tr) (o : Op3) (v : Value) (e : Ending) (w' : World) : Prop := ∃ y', e = .returned (aV y') ∧ y'.v = v ∧ InR w' y' (o.aim t.qs) ∧ Keeps [] w w'
set_option maxRecDepth 100000 in
set_option maxHeartbeats 8000000 in
theorem aim_c (w : World) (x : RfV) (t : Tr) (o : Op3) (y : AnV) (h : RfR w x t) (hr : ∀ p ∈ t.rec', p.2.kn = true) (hy : InR w y o.a) (hF : o.Fit) (hl : t.qs.length ≤ 1000) :
    Calls Tryz.prog 19 #[rfV x, opV o y] w (AimPost w t o y.v) := by
  have hO := h.op
  obtain ⟨XA, hXA, hXR⟩ := h.an
  have hkn := fun k (hk : k < t.qs.length) => hXR.kn hr hk
  have hel := fun k hk => hO.elem (k := k) hk
  have hela := fun k hk => hXA.elem (k := k) hk
  obtain ⟨x0, x1, x2, x3, x4, x5, ⟨x6, x7, x8⟩, ⟨x9, x10, x11⟩, x12, ⟨x13, x14, x15⟩, x16, ⟨x17, x18, x19⟩⟩ := x
  obtain ⟨y0, y1, y2, y3, y4, y5, y6, y7, y8, y9⟩ := y
  obtain ⟨ok, oi, on, oa⟩ := o
  obtain ⟨i1, i2, i3, i4, i5, i6, i7, hI⟩ := hy
  simp only [AnV.v] at i1 i2 i3 i4 i5 i6 i7 hI
  simp only [slv] at hO hXA hel hela
  obtain ⟨_, _, ev, hlc, hcm, _⟩ := hO.form
  obtain ⟨M, hM⟩ : ∃ n, t.qs.length = n := ⟨_, rfl⟩
  have hMo : (t.op.map ndq).length = M := by simp [Tr.op, hM]
  have hMX : XA.length = M := by rw [hXR.1, hM]
  rw [hMo] at ev hlc
  obtain ⟨_, _, ev2, _⟩ := hXA.form
  rw [hMX] at ev2
  rw [hM] at hl
  simp only [Value.slice.injEq] at ev ev2
  obtain ⟨-, ev, -⟩ := ev
  obtain ⟨-, ev2, -⟩ := ev2
  subst ev ev2
  clear hlc hcm hO hXA
  obtain ⟨hbX, hbO, hbZ, hbA, hkW, hzW⟩ := blks4 w (.cells #[.int .i64 x0, .int .i64 x1, .int .i64 x2, .int .u64 x3, .int .i64 x4, .int .i64 x5, .slice x6 x10 x8, .slice x9 x10 x11, .int .i64 x12, .slice x13 x14 x15, .bool x16, .slice x17 x18 x19] tR) (.cells #[.int .u8 ok, .int .i64 oi, .bool on, .int .i64 y0, .int .i64 y1, .int .u64 y2, .int .i64 y3, .bool y4, .bool y5, .int .i64 y6, .slice y7 y8 y9] tOp) (.cells #[.int .i64 0, .int .i64 0, .int .u64 0, .int .i64 0, .bool false, .bool false, .int .i64 0, .slice none 0 0] tA) (.cells #[.int .i64 y0, .int .i64 y1, .int .u64 y2, .int .i64 y3, .bool y4, .bool y5, .int .i64 y6, .slice y7 y8 y9] tA)
  obtain ⟨W, hW⟩ : ∃ W, ((((w.alloc (.cells #[.int .i64 x0, .int .i64 x1, .int .i64 x2, .int .u64 x3, .int .i64 x4, .int .i64 x5, .slice x6 x10 x8, .slice x9 x10 x11, .int .i64 x12, .slice x13 x14 x15, .bool x16, .slice x17 x18 x19] tR)).alloc (.cells #[.int .u8 ok, .int .i64 oi, .bool on, .int .i64 y0, .int .i64 y1, .int .u64 y2, .int .i64 y3, .bool y4, .bool y5, .int .i64 y6, .slice y7 y8 y9] tOp)).alloc (.cells #[.int .i64 0, .int .i64 0, .int .u64 0, .int .i64 0, .bool false, .bool false, .int .i64 0, .slice none 0 0] tA)).alloc (.cells #[.int .i64 y0, .int .i64 y1, .int .u64 y2, .int .i64 y3, .bool y4, .bool y5, .int .i64 y6, .slice y7 y8 y9] tA)) = W := ⟨_, rfl⟩
  rw [hW] at hbX hbO hbZ hbA hkW hzW
  replace hbX := Lib.hid hbX
  replace hbO := Lib.hid hbO
  replace hbZ := Lib.hid hbZ
  replace hbA := Lib.hid hbA
  replace hkW := Lib.hid hkW
  replace hzW := Lib.hid hzW
  replace hel := Lib.hid hel
  replace hela := Lib.hid hela
  replace hkn := Lib.hid hkn
  replace hM := Lib.hid hM
  replace hr := Lib.hid hr
  replace hMo := Lib.hid hMo
  replace hMX := Lib.hid hMX
  replace i1 := Lib.hid i1
  replace i2 := Lib.hid i2
  replace i3 := Lib.hid i3
  replace i4 := Lib.hid i4
  replace i5 := Lib.hid i5
  replace i6 := Lib.hid i6
  replace i7 := Lib.hid i7
  replace h := Lib.hid h
  replace hI := Lib.hid hI
  replace hF := Lib.hid hF
  replace hW := Lib.hid hW
  obtain ⟨z0, z1, z2, z3, z4, z5, z6, z7, z8, z9, z10, z11, zf, zl⟩ := cl12 hbX.out
  obtain ⟨r0, r1, r2, r3, r4, r5, r6, r7, r8, r9, r10, rf, rl⟩ := cl11 hbO.out
  simp only [rfV, slv, opV, AnV.v]
  have hMm : x10 ≤ 9223372036854775807 := by omega
  go_enter Tryz.func19, Tryz.ntmps19
  go_wp2
  rw [hW.out]
  go_loopw [6, 15] (fun ov iv wr => ∃ k : Nat, iv = .int .i64 k ∧ k ≤ x10 ∧ Hid (shT.O wr W.heap.size tN ov ((opens (t.qs.take k)).map ndq)) ∧ Hid (Keeps [] W wr)) (fun _ iv _ => x10 - (intOf iv).toNat)
  case atStart => exact ⟨0, rfl, by omega, Lib.hid (Sh.O.nil _ _ _ _), Lib.hid (Keeps.refl _ _)⟩
  case round =>
    obtain ⟨k, rfl, hk, hov, hkr⟩ := hrel
    replace hbX := Lib.hid ((hkr.out.block _ (lt_of_blk hbX.out) (by simp)).trans hbX.out)
    replace hbO := Lib.hid ((hkr.out.block _ (lt_of_blk hbO.out) (by simp)).trans hbO.out)
    replace hbZ := Lib.hid ((hkr.out.block _ (lt_of_blk hbZ.out) (by simp)).trans hbZ.out)
    replace hbA := Lib.hid ((hkr.out.block _ (lt_of_blk hbA.out) (by simp)).trans hbA.out)
    clear z0 z1 z2 z3 z4 z5 z6 z7 z8 z9 z10 z11 zf zl
    clear r0 r1 r2 r3 r4 r5 r6 r7 r8 r9 r10 rf rl
    obtain ⟨z0, z1, z2, z3, z4, z5, z6, z7, z8, z9, z10, z11, zf, zl⟩ := cl12 hbX.out
    obtain ⟨r0, r1, r2, r3, r4, r5, r6, r7, r8, r9, r10, rf, rl⟩ := cl11 hbO.out
    by_cases hlt : k < x10
    · have hlt2 : (k : Int) < x10 := by omega
      have hkq : k < t.qs.length := by rw [hM.out]; exact hlt
      obtain ⟨hkX, hknk⟩ := hkn.out k hkq
      obtain ⟨⟨⟨p0, p1, p2⟩, pu⟩, hp⟩ : ∃ p, t.qs[k] = p := ⟨_, rfl⟩
      obtain ⟨g, of, c', hv, he⟩ := hel.out k (by rw [hMo.out]; exact hlt)
      rw [hMo.out] at hv
      cases hv
      have hpe : (t.op.map ndq)[k]'(by rw [hMo.out]; exact hlt) = (p0, p2, p1) := by simp [Tr.op, hp, ndq]
      rw [hpe] at he
      have hkw := hkW.out.trans hkr.out
      have e0 := hkw.val (he 0 _ rfl)
      have e1 := hkw.val (he 1 _ rfl)
      have e2 := hkw.val (he 2 _ rfl)
      simp only [shT, Nat.add_zero] at e0 e1 e2
      obtain ⟨g2, of2, c2', hv, he2⟩ := hela.out k hkX
      rw [hMX.out] at hv
      cases hv
      have e4 := hkw.val (he2 4 _ rfl)
      simp only [shA] at e4
      rw [hknk, hp] at e4
      have hstep : opens (t.qs.take (k + 1)) = opens (t.qs.take k) ++ if pu.isSome then [] else [(p0, p1, p2)] := by
        rw [List.take_succ_eq_append_getElem hkq, hp, opens_snoc]
      have hkN := (Keeps.refl [] wr).alloc (.cells #[.int .i64 p0, .int .u64 p2, .int .i64 p1] tN)
      have hbN := heap_alloc_new wr (.cells #[.int .i64 p0, .int .u64 p2, .int .i64 p1] tN)
      replace hov := hov.out.keeps hkN
      have hkrN := Lib.hid (hkr.out.trans hkN)
      have zX := (hkN.block _ zl (by simp)).trans hbX.out
      have zO := (hkN.block _ rl (by simp)).trans hbO.out
      have e4N := (hkN.val e4)
      clear he he2 hpe
      replace hp := Lib.hid hp
      replace hov := Lib.hid hov
      replace zX := Lib.hid zX
      replace zO := Lib.hid zO
      replace hbN := Lib.hid hbN
      replace hkN := Lib.hid hkN
      cases pu with
      | some a =>
        simp only [Option.isSome_some, if_true, List.append_nil] at hstep e4 e4N
        rw [← hstep] at hov
        replace hov := Lib.hid hov.out
        replace hstep := Lib.hid hstep
        go_wp2
        go_roundw
        case rel => exact ⟨k + 1, rfl, by omega, hov, hkrN⟩
        case measure => simp [intOf]; omega
      | none =>
        simp only [Option.isSome_none, Bool.false_eq_true, if_false] at hstep e4 e4N
        have hstep2 : (opens (t.qs.take (k + 1))).map ndq = (opens (t.qs.take k)).map ndq ++ [(p0, p2, p1)] := by rw [hstep]; simp [ndq]
        obtain ⟨L0, hL0⟩ : ∃ l, (opens (t.qs.take k)).map ndq = l := ⟨_, rfl⟩
        have hL0l : L0.length ≤ 1000 := by
          rw [← hL0, List.length_map]
          exact Nat.le_trans (opens_len _) (by rw [List.length_take]; have := hM.out; omega)
        rw [hL0] at hstep2 hov
        obtain ⟨oa', oc, rfl⟩ := hov.out.form
        obtain ⟨N0, hN0⟩ : ∃ n, L0.length = n := ⟨_, rfl⟩
        rw [hN0] at hov hL0l ⊢
        replace hstep2 := Lib.hid hstep2
        replace hN0 := Lib.hid hN0
        replace hL0 := Lib.hid hL0
        clear hstep
        go_upto_region 7 with fail
        generalize (wr.alloc (.cells #[.int .i64 p0, .int .u64 p2, .int .i64 p1] tN)) = w1 at *
        obtain ⟨XN, hXN⟩ : ∃ X, wr.heap.size = X := ⟨_, rfl⟩
        rw [hXN] at hbN ⊢
        obtain ⟨n0, n1, n2, nf, nl⟩ := cl3 hbN.out
        replace hXN := Lib.hid hXN
        have hmade := Sh.R.made shT w1 [(p0, p2, p1)] #[.int .i64 p0, .int .u64 p2, .int .i64 p1] tN rfl (by simp [maxLen]) 1 rfl
        have hkM := (Keeps.refl [] w1).alloc (.cells #[.int .i64 p0, .int .u64 p2, .int .i64 p1] tN)
        have hOA := hov.out.keeps hkM
        have hkwM := hkrN.out.trans hkM
        have hsz := hkwM.size
        replace hmade := Lib.hid hmade
        replace hOA := Lib.hid hOA
        replace hkwM := Lib.hid hkwM
        clear hkM e4 e4N e0 e1 e2
        go_wp2_with (at_builtin; (refine Sh.wpl_app shT W.heap.size infoN rfl Tryz.underlying32 (.slice oa' N0 oc) (.slice (some ⟨w1.heap.size, 0, none⟩) 1 1) L0 [(p0, p2, p1)] rfl _ _ rfl rfl rfl hOA.out hmade.out (by rw [hN0.out]; simp; omega) hsz ?_; intro v5 w5 hO5 hG5; rw [← hstep2.out] at hO5; have hk5 := Sh.O.grew hkwM.out hOA.out hG5 (Nat.le_refl _); replace hO5 := Lib.hid hO5; replace hk5 := Lib.hid hk5; clear hG5))
        go_roundw
        case rel => exact ⟨k + 1, rfl, by omega, hO5, hk5⟩
        case measure => simp [intOf]; omega
    · have hlt2 : ¬ ((k : Int) < x10) := by omega
      have hkM : k = t.qs.length := by rw [hM.out]; omega
      rw [hkM, List.take_length] at hov
      obtain ⟨oa', oc, rfl⟩ := hov.out.form
      obtain ⟨N0, hN0⟩ : ∃ n, ((opens t.qs).map ndq).length = n := ⟨_, rfl⟩
      rw [hN0] at hov ⊢
      have hN1 : (opens t.qs).length = N0 := by rw [← hN0, List.length_map]
      have hkw := hkW.out.trans hkr.out
      obtain ⟨k0, k1, k2, k3, k4, k5, k6, k7, kf, kl⟩ := cl8 hbA.out
      obtain ⟨v0, v1, v2, v3, v4, v5, v6, v7, vf, vl⟩ := cl8 hbZ.out
      have hO1 : shT.R wr (.slice oa' N0 oc) ((opens t.qs).map ndq) := hov.out.r
      have hvz : ∀ W', Keeps [] w W' → ∀ y' : AnV, y'.v = .slice y7 y8 y9 → (y'.m = (Op3.aim ⟨ok, oi, on, oa⟩ t.qs).m ∧ y'.ow = (Op3.aim ⟨ok, oi, on, oa⟩ t.qs).ow ∧ y'.n = (Op3.aim ⟨ok, oi, on, oa⟩ t.qs).n ∧ y'.ep = oa.ep ∧ y'.kn = oa.kn ∧ y'.rt = oa.rt ∧ y'.lu = oa.lu) → InR W' y' (Op3.aim ⟨ok, oi, on, oa⟩ t.qs) := fun W' hk y' hv hh => by
        have hkk := hk
        have hrest : (Op3.aim ⟨ok, oi, on, oa⟩ t.qs).ep = oa.ep ∧ (Op3.aim ⟨ok, oi, on, oa⟩ t.qs).kn = oa.kn ∧ (Op3.aim ⟨ok, oi, on, oa⟩ t.qs).rt = oa.rt ∧ (Op3.aim ⟨ok, oi, on, oa⟩ t.qs).lu = oa.lu ∧ (Op3.aim ⟨ok, oi, on, oa⟩ t.qs).ins = oa.ins := by
          unfold Op3.aim
          split
          · split <;> exact ⟨rfl, rfl, rfl, rfl, rfl⟩
          · exact ⟨rfl, rfl, rfl, rfl, rfl⟩
        obtain ⟨c1, c2, c3, c4, c5⟩ := hrest
        obtain ⟨b1, b2, b3, b4, b5, b6, b7⟩ := hh
        exact ⟨b1, b2, b3, by rw [b4, c1], by rw [b5, c2], by rw [b6, c3], by rw [b7, c4], by rw [hv, c5]; exact hI.out.keeps hkk⟩
      have hel1 := fun k hk => hO1.elem (k := k) hk
      replace hvz := Lib.hid hvz
      replace hel1 := Lib.hid hel1
      replace hN1 := Lib.hid hN1
      replace hN0 := Lib.hid hN0
      replace hkM := Lib.hid hkM
      replace hkw := Lib.hid hkw
      clear hov hO1
      by_cases hc : ok ≤ 1 ∧ 0 < N0
      · obtain ⟨hk1, hpos⟩ := hc
        have hk1i : (ok : Int) ≤ 1 := by omega
        have hposi : (0 : Int) < N0 := by omega
        have hNz : ¬ (N0 : Int) = 0 := by omega
        have hN0s : N0 ≤ 1000 := by rw [← hN1.out]; exact Nat.le_trans (opens_len _) (by have := hM.out; omega)
        obtain ⟨hp1, hp2, hp3, hp4⟩ := pick_lt (i := oi) hpos
        obtain ⟨P, hP⟩ : ∃ P, pick oi N0 = P := ⟨_, rfl⟩
        rw [hP] at hp1 hp2
        have hp1i : (P : Int) < N0 := by omega
        have hp5 : oi.tmod (N0 : Int) % (N0 : Int) = (P : Int) := by rw [hp2, Int.tmod_eq_emod_of_nonneg hp3]; simp
        have hPo : P < (opens t.qs).length := by rw [hN1.out]; exact hp1
        obtain ⟨g, of, c', hv, he⟩ := hel1.out P (by rw [hN0.out]; exact hp1)
        rw [hN0.out] at hv
        cases hv
        obtain ⟨⟨p0, p1, p2⟩, hp⟩ : ∃ p, (opens t.qs)[P] = p := ⟨_, rfl⟩
        have hpe : ((opens t.qs).map ndq)[P]'(by rw [hN0.out]; exact hp1) = (p0, p2, p1) := by simp [hp, ndq]
        rw [hpe] at he
        have e0 := he 0 _ rfl
        have e1 := he 1 _ rfl
        have e2 := he 2 _ rfl
        simp only [shT, Nat.add_zero] at e0 e1 e2
        have ha : Op3.aim ⟨ok, oi, on, oa⟩ t.qs = { oa with m := p0, ow := p1, n := p2 } := by
          have h1 := aim_in (o := ⟨ok, oi, on, oa⟩) (qs := t.qs) hk1 (by rw [hN1.out]; exact hpos)
          have h2 : (opens t.qs)[pick oi (opens t.qs).length]'(pick_lt (by rw [hN1.out]; exact hpos)).1 = (p0, p1, p2) := by
            rw [← hp]
            congr 1
            rw [hN1.out]; exact hP
          rw [h1, h2]
        have hkN := (Keeps.refl [] wr).alloc (.cells #[.int .i64 p0, .int .u64 p2, .int .i64 p1] tN)
        have hbN := heap_alloc_new wr (.cells #[.int .i64 p0, .int .u64 p2, .int .i64 p1] tN)
        have zA := (hkN.block _ kl (by simp)).trans hbA.out
        have zZ := (hkN.block _ vl (by simp)).trans hbZ.out
        replace hkN := Lib.hid hkN
        replace hbN := Lib.hid hbN
        replace zA := Lib.hid zA
        replace zZ := Lib.hid zZ
        replace hP := Lib.hid hP
        replace hp := Lib.hid hp
        replace ha := Lib.hid ha
        clear hp2 he hpe
        go_upto_region 11 with fail
        generalize (wr.alloc (.cells #[.int .i64 p0, .int .u64 p2, .int .i64 p1] tN)) = w1 at *
        obtain ⟨XN, hXN⟩ : ∃ X, wr.heap.size = X := ⟨_, rfl⟩
        rw [hXN] at hbN ⊢
        have hXN2 : w.heap.size + 1 + 1 + 1 < XN := by rw [← hXN]; exact kl
        replace hXN := Lib.hid hXN
        clear e0 e1 e2 k0 k1 k2 k3 k4 k5 k6 k7 kf kl v0 v1 v2 v3 v4 v5 v6 v7 vf vl
        have hbNd : w1.drew.heap[XN]? = _ := hbN.out
        have zAd : w1.drew.heap[w.heap.size + 1 + 1 + 1]? = _ := zA.out
        have zZd : w1.drew.heap[w.heap.size + 1 + 1]? = _ := zZ.out
        have hkd := (hkw.out.trans hkN.out).drew
        obtain ⟨n0, n1, n2, nf, nl⟩ := cl3 hbNd
        obtain ⟨k0, k1, k2, k3, k4, k5, k6, k7, kf, kl⟩ := cl8 zAd
        have hvl := lt_of_blk zZd
        replace hbNd := Lib.hid hbNd
        replace zAd := Lib.hid zAd
        replace zZd := Lib.hid zZd
        replace hkd := Lib.hid hkd
        clear hbN zA zZ hkN
        refine Free.wp_region_chain (fun i => i == 7 || i == 9 || i == 11) (fun i => true) (fun _ b => b = w.heap.size + 1 + 1 + 1) (by kernel_rfl) (by kernel_rfl) (by kernel_rfl) ?_
        generalize w1.drew = wd at *
        (repeat (first | (apply Free.cw_pure rfl rfl; (intro w'; go_simp <;> exact rfl); go_frame) | (apply Free.cw_steady rfl rfl rfl; (intro w' hS; have q0 := Free.sx_cell hS n0 (fun _ _ hT => by omega); have q1 := Free.sx_cell hS n1 (fun _ _ hT => by omega); have q2 := Free.sx_cell hS n2 (fun _ _ hT => by omega); go_simp <;> exact rfl); go_frame) | (refine Free.cw_skip rfl ?_; go_frame)))
        refine Free.cw_loud rfl rfl (fun K hK => ?_)
        go_wp2
        refine hK _ _ rfl (Free.KeepsP.setCell (S := fun b => b = w.heap.size + 1 + 1 + 1) _ rfl _) ?_
        clear hK K
        (repeat (first | (apply Free.cw_pure rfl rfl; (intro w'; go_simp <;> exact rfl); go_frame) | (apply Free.cw_steady rfl rfl rfl; (intro w' hS; have q0 := Free.sx_cell hS n0 (fun _ _ hT => by omega); have q1 := Free.sx_cell hS n1 (fun _ _ hT => by omega); have q2 := Free.sx_cell hS n2 (fun _ _ hT => by omega); go_simp <;> exact rfl); go_frame) | (refine Free.cw_skip rfl ?_; go_frame)))
        refine Free.cw_loud rfl rfl (fun K hK => ?_)
        go_wp2
        refine hK _ _ rfl (Free.KeepsP.setCell (S := fun b => b = w.heap.size + 1 + 1 + 1) _ rfl _) ?_
        clear hK K
        (repeat (first | (apply Free.cw_pure rfl rfl; (intro w'; go_simp <;> exact rfl); go_frame) | (apply Free.cw_steady rfl rfl rfl; (intro w' hS; have q0 := Free.sx_cell hS n0 (fun _ _ hT => by omega); have q1 := Free.sx_cell hS n1 (fun _ _ hT => by omega); have q2 := Free.sx_cell hS n2 (fun _ _ hT => by omega); go_simp <;> exact rfl); go_frame) | (refine Free.cw_skip rfl ?_; go_frame)))
        refine Free.cw_loud rfl rfl (fun K hK => ?_)
        go_wp2
        refine hK _ _ rfl (Free.KeepsP.setCell (S := fun b => b = w.heap.size + 1 + 1 + 1) _ rfl _) ?_
        clear hK K
        refine Free.cw_nil ?_
        obtain ⟨sA, sk⟩ := sc3a (.int .i64 p0) (.int .i64 p1) (.int .u64 p2) zAd.out
        have sZ := (sk.block (w.heap.size + 1 + 1) hvl (by simp)).trans zZd.out
        have hk2 := hkd.out.fresh sk (fun b hb => by simp only [List.mem_singleton] at hb; subst hb; exact .inr (by omega))
        generalize (((wd.setCell ⟨w.heap.size + 1 + 1 + 1, 0, none⟩ (.int .i64 p0)).setCell ⟨w.heap.size + 1 + 1 + 1, 1, none⟩ (.int .i64 p1)).setCell ⟨w.heap.size + 1 + 1 + 1, 2, none⟩ (.int .u64 p2)) = w2 at *
        replace sA := Lib.hid sA
        replace sZ := Lib.hid sZ
        replace hk2 := Lib.hid hk2
        clear sk k0 k1 k2 k3 k4 k5 k6 k7 kf kl n0 n1 n2 nf nl hbNd zAd zZd hkd hvl
        obtain ⟨k0, k1, k2, k3, k4, k5, k6, k7, kf, kl⟩ := cl8 sA.out
        obtain ⟨v0, v1, v2, v3, v4, v5, v6, v7, vf, vl⟩ := cl8 sZ.out
        go_wp2
        obtain ⟨g1, g2⟩ := sc8 (.int .i64 p0) (.int .i64 p1) (.int .u64 p2) (.int .i64 y3) (.bool y4) (.bool y5) (.int .i64 y6) (.slice y7 y8 y9) sZ.out
        have hkf := hk2.out.fresh g2 (fun b hb => by simp only [List.mem_singleton] at hb; subst hb; exact .inr (by omega))
        refine bodyPost_ret (results_cell_row rfl _ _ _ _ _ _ _ rfl g1 Tryz.underlying40 rfl (by kernel_rfl)) rfl ?_
        exact ⟨⟨p0, p1, p2, y3, y4, y5, y6, y7, y8, y9⟩, rfl, rfl, hvz.out _ hkf _ rfl (by rw [ha.out]; exact ⟨rfl, rfl, rfl, i4.out, i5.out, i6.out, i7.out⟩), hkf⟩
      · have ha : Op3.aim ⟨ok, oi, on, oa⟩ t.qs = oa := aim_out (o := ⟨ok, oi, on, oa⟩) (by rw [hN1.out]; exact hc)
        replace ha := Lib.hid ha
        by_cases hk1 : ok ≤ 1
        · have hN0z : N0 = 0 := by omega
          have hk1i : (ok : Int) ≤ 1 := by omega
          subst hN0z
          go_wp2
          obtain ⟨g1, g2⟩ := sc8 (.int .i64 y0) (.int .i64 y1) (.int .u64 y2) (.int .i64 y3) (.bool y4) (.bool y5) (.int .i64 y6) (.slice y7 y8 y9) hbZ.out
          have hkf := hkw.out.fresh g2 (fun b hb => by simp only [List.mem_singleton] at hb; subst hb; exact .inr (by omega))
          refine bodyPost_ret (results_cell_row rfl _ _ _ _ _ _ _ rfl g1 Tryz.underlying40 rfl (by kernel_rfl)) rfl ?_
          exact ⟨⟨y0, y1, y2, y3, y4, y5, y6, y7, y8, y9⟩, rfl, rfl, hvz.out _ hkf _ rfl (by rw [ha.out]; exact ⟨i1.out, i2.out, i3.out, i4.out, i5.out, i6.out, i7.out⟩), hkf⟩
        · have hk1i : ¬ (ok : Int) ≤ 1 := by omega
          go_wp2
          obtain ⟨g1, g2⟩ := sc8 (.int .i64 y0) (.int .i64 y1) (.int .u64 y2) (.int .i64 y3) (.bool y4) (.bool y5) (.int .i64 y6) (.slice y7 y8 y9) hbZ.out
          have hkf := hkw.out.fresh g2 (fun b hb => by simp only [List.mem_singleton] at hb; subst hb; exact .inr (by omega))
          refine bodyPost_ret (results_cell_row rfl _ _ _ _ _ _ _ rfl g1 Tryz.underlying40 rfl (by kernel_rfl)) rfl ?_
          exact ⟨⟨y0, y1, y2, y3, y4, y5, y6, y7, y8, y9⟩, rfl, rfl, hvz.out _ hkf _ rfl (by rw [ha.out]; exact ⟨i1.out, i2.out, i3.out, i4.out, i5.out, i6.out, i7.out⟩), hkf⟩
end Go.Proofs.YthfdngjbcgkkfaaGreat

namespace Go.Proofs.YthfdngjbcgkkfaaGreat
open Go Go.RowKit
namespace InsS
variable {α : Type}
theorem loud_mono {P : Program} {o : Oper} {a : Act} {w : World} {R R' : Value → World → Prop} (h : Free.Loud P o a w R) (hR : ∀ v w', R v w' → R' v w') : Free.Loud P o a w R' := by
  unfold Free.Loud at h ⊢
  unfold Free.loudUpon at h ⊢
  split at h <;> first | exact h.elim | exact hR _ _ h | exact Calls.mono h (fun e w'' ⟨v, he, hr⟩ => ⟨v, he, hR _ _ hr⟩)
def F (s : Sh α) (A M A2 S : Nat) (Q : World → Prop) (B0 : Nat) (e : TypeId) (L1 : List α) (x : α) (i : Nat) (v : Value) (w : World) : Prop := (i = S → Q w) ∧ Ins.F s A M A2 A2 B0 e L1 x [] i v w
def T (A2 S X B0 : Nat) (k b : Nat) : Prop := Ins.T A2 A2 B0 k b ∨ (k = S ∧ b = X)
def K (A2 S : Nat) (k i : Nat) : Bool := (k == S && i != S) || (Ins.K A2 A2 k i && i != S)
theorem stable {s : Sh α} {A M A2 S X : Nat} {Q : World → Prop} {B0 : Nat} {e : TypeId} {L1 : List α} {x : α} {ops : Array Oper} {loud : Nat → Bool} (hpre : Free.pre ops A2 S = true) (hQ : ∀ w w', Q w → Free.KeepsP (fun _ => False) w w' → Q w') :
    ∀ i k v w w', loud i = true → i ≠ k → K A2 S k i = false → Free.pre ops k i = false → F s A M A2 S Q B0 e L1 x i v w → Free.KeepsP (T A2 S X B0 k) w w' → F s A M A2 S Q B0 e L1 x i v w' := by
  intro i k v w w' hl hne hK hp hF hk
  by_cases hks : k = S
  · subst hks
    exfalso
    unfold K at hK
    simp [hne] at hK
  · have hkT : Free.KeepsP (Ins.T A2 A2 B0 k) w w' := hk.mono (fun b hb => hb.elim id (fun h => absurd h.1 hks))
    by_cases his : i = S
    · subst his
      have hk2 : k ≠ A2 := fun e => by subst e; rw [hp] at hpre; cases hpre
      have hkF : Free.KeepsP (fun _ => False) w w' := hkT.mono (fun b hb => by rcases hb.1 with e | e <;> exact hk2 e)
      exact ⟨fun h => hQ w w' (hF.1 h) hkF, Ins.keepF hF.2 hkF⟩
    · refine ⟨fun h => absurd h his, Ins.stable (.inl rfl) i k v w w' hl hne ?_ hp hF.2 hkT⟩
      unfold K at hK
      simpa [hks, his] using hK
theorem low {ops : Array Oper} {A2 S X B0 i b : Nat} (hp : Free.pre ops i S = true) (h : Free.sx ops (T A2 S X B0) i b) : B0 ≤ b := by
  obtain ⟨k, h1, h2, h3 | ⟨rfl, _⟩⟩ := h
  · exact h3.2
  · rw [hp] at h2; cases h2
theorem lowS {ops : Array Oper} {A2 S X B0 b : Nat} (h : Free.sx ops (T A2 S X B0) S b) : B0 ≤ b := by
  obtain ⟨k, h1, h2, h3 | ⟨rfl, _⟩⟩ := h
  · exact h3.2
  · exact absurd rfl h1
theorem lowA {A2 S X B0 b : Nat} (h : Free.sa (T A2 S X B0) b) : B0 ≤ b ∨ b = X := by
  obtain ⟨k, h | h⟩ := h
  · exact .inl h.2
  · exact .inr h.2
theorem lift {s : Sh α} {A M A2 S X k : Nat} {Q : World → Prop} {B0 : Nat} {e : TypeId} {L1 : List α} {x : α} {v : Value} {w w' : World} (hne : k ≠ S) (h : Ins.F s A M A2 A2 B0 e L1 x [] k v w' ∧ Free.KeepsP (Ins.T A2 A2 B0 k) w w') :
    F s A M A2 S Q B0 e L1 x k v w' ∧ Free.KeepsP (T A2 S X B0 k) w w' := ⟨⟨fun h => absurd h hne, h.1⟩, h.2.mono (fun _ h => .inl h)⟩
end InsS
end Go.Proofs.YthfdngjbcgkkfaaGreat
