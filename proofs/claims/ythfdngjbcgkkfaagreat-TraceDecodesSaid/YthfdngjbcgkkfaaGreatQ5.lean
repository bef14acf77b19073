/- Texts that the laws lean on, in the order in which they build. An element of eight cells is stored into an owned list. The lists of the specification's Answer: an answer recorded, a question opened; answers and history. An iteration over a map with keys of any kind: what keeps it. Trace.answers: the recorded answers in their order. Claims in memory, as they are gathered. What the claims are gathered from: the plain functions. A row of the claims; what the recorded map says of the last use. -/
import Derived.Test.YthfdngjbcgkkfaaGreatQ4
set_option linter.unusedVariables false
set_option linter.unusedSimpArgs false
namespace Go.Proofs.YthfdngjbcgkkfaaGreat
open Go Go.RowKit

theorem ownsRow_set {w : World} {base e size n : Nat} {ys : List Value} {g cap : Nat} (h : w.ownsRow base e size (.slice (some ⟨g, 0, none⟩) n cap) n ys) (i : Nat) (c : Value) :
    (w.setCell ⟨g, i, none⟩ c).ownsRow base e size (.slice (some ⟨g, 0, none⟩) n cap) n (ys.set i c) := by
  obtain ⟨hl, h2⟩ := h
  rcases h2 with ⟨e, _⟩ | ⟨g', cap', cur, e, hb, hg, hle, hm, hsz, ht⟩
  · cases e
  · cases e
    refine ⟨by simpa using hl, .inr ⟨g, cap, cur.setIfInBounds i c, rfl, hb, setCs hg i c, hle, hm, by simpa using hsz, ?_⟩⟩
    rw [Array.toList_setIfInBounds, List.take_set, ht]
theorem set8_list {A C : List Value} {x0 x1 x2 x3 x4 x5 x6 x7 y0 y1 y2 y3 y4 y5 y6 y7 : Value} {m : Nat} (hm : A.length = m) :
    ((((((((A ++ ([x0, x1, x2, x3, x4, x5, x6, x7] ++ C)).set m y0).set (m + 1) y1).set (m + 2) y2).set (m + 3) y3).set (m + 4) y4).set (m + 5) y5).set (m + 6) y6).set (m + 7) y7 = A ++ ([y0, y1, y2, y3, y4, y5, y6, y7] ++ C) := by
  subst hm
  repeat rw [List.set_append_right (by omega)]
  simp
theorem cs_split (L : List AnV) (k : Nat) (hk : k < L.length) (y : AnV) : shA.cs L = shA.cs (L.take k) ++ (shA.cf L[k] ++ shA.cs (L.drop (k + 1))) ∧ shA.cs (L.set k y) = shA.cs (L.take k) ++ (shA.cf y ++ shA.cs (L.drop (k + 1))) := by
  refine ⟨?_, ?_⟩
  · have h : L = L.take k ++ (L[k] :: L.drop (k + 1)) := by rw [List.getElem_cons_drop, List.take_append_drop]
    rw [congrArg shA.cs h, Sh.cs_append]
    rfl
  · rw [List.set_eq_take_append_cons_drop, if_pos hk, Sh.cs_append]
    rfl
theorem O_set8 {w : World} {B e n c g : Nat} {L : List AnV} (h : shA.O w B e (.slice (some ⟨g, 0, none⟩) n c) L) (hn : L.length = n) (k : Nat) (hk : k < L.length) (y : AnV) :
    shA.O ((((((((w.setCell ⟨g, k * 8, none⟩ (.int .i64 y.m)).setCell ⟨g, k * 8 + 1, none⟩ (.int .i64 y.ow)).setCell ⟨g, k * 8 + 2, none⟩ (.int .u64 y.n)).setCell ⟨g, k * 8 + 3, none⟩ (.int .i64 y.ep)).setCell ⟨g, k * 8 + 4, none⟩ (.bool y.kn)).setCell ⟨g, k * 8 + 5, none⟩ (.bool y.rt)).setCell ⟨g, k * 8 + 6, none⟩ (.int .i64 y.lu)).setCell ⟨g, k * 8 + 7, none⟩ y.v) B e (.slice (some ⟨g, 0, none⟩) n c) (L.set k y) := by
  unfold Sh.O at h ⊢
  rw [hn] at h
  rw [List.length_set, hn]
  have h8 := ownsRow_set (ownsRow_set (ownsRow_set (ownsRow_set (ownsRow_set (ownsRow_set (ownsRow_set (ownsRow_set h (k * 8) (.int .i64 y.m)) (k * 8 + 1) (.int .i64 y.ow)) (k * 8 + 2) (.int .u64 y.n)) (k * 8 + 3) (.int .i64 y.ep)) (k * 8 + 4) (.bool y.kn)) (k * 8 + 5) (.bool y.rt)) (k * 8 + 6) (.int .i64 y.lu)) (k * 8 + 7) y.v
  obtain ⟨e1, e2⟩ := cs_split L k hk y
  have hA : (shA.cs (L.take k)).length = k * 8 := by
    rw [Sh.cs_len, List.length_take, Nat.min_eq_left (by omega)]
    rfl
  rw [e1, show shA.cf L[k] = [.int .i64 L[k].m, .int .i64 L[k].ow, .int .u64 L[k].n, .int .i64 L[k].ep, .bool L[k].kn, .bool L[k].rt, .int .i64 L[k].lu, L[k].v] from rfl, set8_list hA] at h8
  rw [e2]
  exact h8
theorem keeps8 (w : World) (g m : Nat) (x0 x1 x2 x3 x4 x5 x6 x7 : Value) : Keeps [g] w ((((((((w.setCell ⟨g, m, none⟩ x0).setCell ⟨g, m + 1, none⟩ x1).setCell ⟨g, m + 2, none⟩ x2).setCell ⟨g, m + 3, none⟩ x3).setCell ⟨g, m + 4, none⟩ x4).setCell ⟨g, m + 5, none⟩ x5).setCell ⟨g, m + 6, none⟩ x6).setCell ⟨g, m + 7, none⟩ x7) := by
  refine ((((((((Keeps.refl _ w).setCell ?_ _).setCell ?_ _).setCell ?_ _).setCell ?_ _).setCell ?_ _).setCell ?_ _).setCell ?_ _).setCell ?_ _ <;> exact .inr (by simp)
end Go.Proofs.YthfdngjbcgkkfaaGreat

namespace Go.Proofs.YthfdngjbcgkkfaaGreat
open Go.RowKit

theorem RA.set {w : World} {X : List AnV} {qs : Qs} {k : Nat} {y : AnV} {q : Qn} {a : Ans} (h : RA w X qs) (hy : InA w y a) : RA w (X.set k y) (qs.set k (q, some a)) := by
  obtain ⟨hl, hh⟩ := h
  refine ⟨by simp [hl], fun j u p hu hp => ?_⟩
  rw [List.getElem?_set] at hu hp
  by_cases hj : k = j
  · rw [if_pos hj] at hu hp
    split at hu
    · split at hp
      · cases hu; cases hp; exact hy
      · cases hp
    · cases hu
  · rw [if_neg hj] at hu hp
    exact hh j u p hu hp
theorem RA.open {w : World} {X : List AnV} {qs : Qs} {q : Qn} (h : RA w X qs) : RA w (X ++ [AnV.zero]) (qs ++ [(q, none)]) := by
  obtain ⟨hl, hh⟩ := h
  refine ⟨by simp [hl], fun j u p hu hp => ?_⟩
  by_cases hj : j < X.length
  · rw [List.getElem?_append_left hj] at hu
    rw [List.getElem?_append_left (by omega)] at hp
    exact hh j u p hu hp
  · rw [List.getElem?_append_right (by omega)] at hu hp
    rw [← hl] at hp
    obtain ⟨i, hi⟩ : ∃ i, j - X.length = i := ⟨_, rfl⟩
    rw [hi] at hu hp
    cases i with
    | zero => simp at hu hp; subst hu hp; rfl
    | succ i => simp at hu
theorem RA.all {w w' : World} {X : List AnV} {qs : Qs} (h : RA w X qs) (hk : ∀ (x : AnV) (b : Ans), InA w x b → InA w' x b) : RA w' X qs := by
  refine ⟨h.1, fun j u p hu hp => ?_⟩
  have h1 := h.2 j u p hu hp
  obtain ⟨q, v⟩ := p
  cases v with
  | some b => exact hk u b h1
  | none => exact h1
def Tr.answerR (t : Tr) (a : Ans) : Tr × Int :=
  if t.state ≠ 0 then (t, 9) else if isOpen a.q t.qs = false then (t, 6) else
  if a.kn = false then ({ t.take a with state := 4 }, 0) else if a.rt = true then ({ t.take a with state := 3 }, 0) else
  if t.rec'.any (fun p => Ans.odd a.m a.ep p.2) then ({ t.take a with state := 4 }, 0) else (((t.take a).put a).close, 0)
def oddAt (a : Ans) (p : Qn × Option Ans) : Bool := match p.2 with | some b => Ans.odd a.m a.ep b | none => false
theorem rec_odd (a : Ans) : ∀ qs : Qs, (recOf qs).any (fun p => Ans.odd a.m a.ep p.2) = qs.any (oddAt a)
  | [] => rfl
  | (x, none) :: r => by rw [recOf_none, List.any_cons, rec_odd a r]; rfl
  | (x, some b) :: r => by rw [recOf_some, List.any_cons, List.any_cons, rec_odd a r]; rfl
theorem odd_none {a : Ans} {qs : Qs} (h : ∀ j (hj : j < qs.length), oddAt a qs[j] = false) : (recOf qs).any (fun p => Ans.odd a.m a.ep p.2) = false := by
  rw [rec_odd, List.any_eq_false]
  intro p hp
  obtain ⟨j, hj, rfl⟩ := List.getElem_of_mem hp
  rw [h j hj]
  decide
theorem odd_some {a : Ans} {qs : Qs} {j : Nat} (hj : j < qs.length) (h : oddAt a qs[j] = true) : (recOf qs).any (fun p => Ans.odd a.m a.ep p.2) = true := by
  rw [rec_odd, List.any_eq_true]
  exact ⟨_, List.getElem_mem hj, h⟩
theorem setQ_set {q : Qn} {a : Ans} : ∀ {qs : Qs} (_ : (qs.map (·.1)).Nodup) (k : Nat) (hk : k < qs.length), qs[k].1 = q → setQ q a qs = qs.set k (q, some a)
  | [], _, _, h, _ => by simp at h
  | (x, u) :: r, hn, 0, _, e => by
    obtain ⟨h1, h2⟩ := List.nodup_cons.1 hn
    simp only [List.getElem_cons_zero] at e
    subst e
    rw [setQ_cons, if_pos rfl, setQ_same h1]
    rfl
  | (x, u) :: r, hn, k + 1, hk, e => by
    obtain ⟨h1, h2⟩ := List.nodup_cons.1 hn
    have hk' : k < r.length := by simpa using hk
    simp only [List.getElem_cons_succ] at e
    have hx : x ≠ q := fun e2 => h1 (by rw [e2, ← e]; exact List.mem_map.2 ⟨_, List.getElem_mem hk', rfl⟩)
    rw [setQ_cons, if_neg hx, setQ_set h2 k hk' e]
    rfl
theorem isOpen_at {t : Tr} (h : t.Inv) {q : Qn} {k : Nat} (hk : k < t.qs.length) (e : t.qs[k].1 = q) : isOpen q t.qs = !t.qs[k].2.isSome := by
  have hm := List.getElem_mem hk
  obtain ⟨⟨q', u⟩, hp⟩ : ∃ p, t.qs[k] = p := ⟨_, rfl⟩
  rw [hp] at hm e ⊢
  simp only at e
  subst e
  cases u with
  | none => exact isOpen_mem.2 hm
  | some b =>
    unfold isOpen
    simp only [Option.isSome_some, Bool.not_true, decide_eq_false_iff_not]
    intro h2
    have := nd_val h.nd hm h2
    cases this
theorem isOpen_not {t : Tr} {q : Qn} (h : q ∉ t.op) : isOpen q t.qs = false := by
  unfold isOpen
  simp only [decide_eq_false_iff_not]
  exact fun h2 => h (List.mem_map.2 ⟨_, h2, rfl⟩)
theorem LRd.snoc {w : World} {X : List AnV} {Y : List Ans} {x : AnV} {y : Ans} (h : LRd w X Y) (hx : InR w x y) : LRd w (X ++ [x]) (Y ++ [y]) := by
  obtain ⟨hl, hh⟩ := h
  refine ⟨by simp [hl], fun k u v hu hv => ?_⟩
  by_cases hk : k < X.length
  · rw [List.getElem?_append_left hk] at hu
    rw [List.getElem?_append_left (by omega)] at hv
    exact hh k u v hu hv
  · rw [List.getElem?_append_right (by omega)] at hu hv
    rw [← hl] at hv
    obtain ⟨j, hj⟩ : ∃ j, k - X.length = j := ⟨_, rfl⟩
    rw [hj] at hu hv
    cases j with
    | zero => simp at hu hv; subst hu hv; exact hx
    | succ j => simp at hu
theorem ans_end {w W wE : World} {X B N : Nat} {v8 : Value} {XH : List AnV} {va : Option Addr} {vc : Nat} {a : Ans} {H : List Ans} {u0 u2 : Array Value} (hks : Keeps [X, X + 1 + 1] W wE) (hkf : Keeps [] w wE) (hl : LA w XH H) (hOI : shT.O W B tI (.slice va N vc) a.ins)
    (hO8 : shA.O W B tA v8 (XH ++ [⟨a.m, a.ow, a.n, a.ep, a.kn, a.rt, a.lu, va, N, vc⟩])) (h0 : W.heap[X]? = some (.cells u0 tR (0, 0))) (h2 : W.heap[X + 1 + 1]? = some (.cells u2 tR (0, 0))) : ∃ Z, shA.R wE v8 Z ∧ LA wE Z (H ++ [a]) := by
  have k1 : ∀ (e : TypeId) (v : Value), e ≠ tR → (∀ b, v.ownBlock = some b → ∃ (cs : Array Value), W.heap[b]? = some (Obj.cells cs e (0, 0))) → ∀ b ∈ [X, X + 1 + 1], v.ownBlock ≠ some b := fun e v he ht b hb hv => by
    obtain ⟨cs, hc⟩ := ht b hv
    simp at hb
    rcases hb with rfl | rfl
    · exact tag_ne h0 hc (Ne.symm he) rfl
    · exact tag_ne h2 hc (Ne.symm he) rfl
  have hI := hOI.keepS hks (k1 tI _ (by decide) hOI.tag)
  have h8 := (hO8.keepS hks (k1 tA _ (by decide) hO8.tag)).r
  exact ⟨_, h8, (hl.ki hkf.ki0).snoc ⟨rfl, rfl, rfl, rfl, rfl, rfl, rfl, ⟨_, hI⟩⟩⟩
theorem O_some {α : Type} {s : Sh α} {w : World} {B e : Nat} {v : Value} {L : List α} (h : s.O w B e v L) (hl : 0 < L.length) : ∃ g cap cur, v = .slice (some ⟨g, 0, none⟩) L.length cap ∧ B ≤ g ∧ w.heap[g]? = some (.cells cur e (0, 0)) ∧ L.length ≤ cap ∧ cur.size = cap * s.sz := by
  rcases h.2 with ⟨_, e⟩ | ⟨g, cap, cur, rfl, h1, h2, h3, _, h5, _⟩
  · omega
  · exact ⟨g, cap, cur, rfl, h1, h2, h3, h5⟩
theorem cells8f {w : World} {b : Nat} {x0 x1 x2 x3 x4 x5 x6 x7 : Value} {t : TypeId} (h : w.heap[b]? = some (.cells #[x0, x1, x2, x3, x4, x5, x6, x7] t (0, 0))) :
    w.cell? ⟨b, 0, none⟩ = some x0 ∧ w.cell? ⟨b, 1, none⟩ = some x1 ∧ w.cell? ⟨b, 2, none⟩ = some x2 ∧ w.cell? ⟨b, 3, none⟩ = some x3 ∧ w.cell? ⟨b, 4, none⟩ = some x4 ∧ w.cell? ⟨b, 5, none⟩ = some x5 ∧ w.cell? ⟨b, 6, none⟩ = some x6 ∧ w.cell? ⟨b, 7, none⟩ = some x7 ∧ (∀ o, w.frozen? ⟨b, o, none⟩ = false) ∧ b < w.heap.size := by
  refine ⟨?_, ?_, ?_, ?_, ?_, ?_, ?_, ?_, fun o => ?_, lt_of_blk h⟩ <;> simp [World.cell?, World.frozen?, h]
/-- While a trace gathers, its history are the recorded answers. -/
def Tr.HistOk (t : Tr) : Prop := t.state = 0 → ∀ b, b ∈ t.hist ↔ ∃ p ∈ t.rec', p.2 = b
theorem Tr.answerR_eq {t : Tr} {a : Ans} (h : t.HistOk) : t.answerR a = t.answer a := by
  unfold Tr.answerR Tr.answer
  by_cases hs : t.state = 0
  · have he : (t.rec'.any fun p => Ans.odd a.m a.ep p.2) = (t.hist ++ [a]).any (Ans.odd a.m a.ep) := by
      rw [Bool.eq_iff_iff, List.any_eq_true, List.any_eq_true]
      constructor
      · rintro ⟨p, hp, ho⟩
        exact ⟨p.2, List.mem_append_left _ ((h hs p.2).2 ⟨p, hp, rfl⟩), ho⟩
      · rintro ⟨b, hb, ho⟩
        rcases List.mem_append.1 hb with hb | hb
        · obtain ⟨p, hp, rfl⟩ := (h hs b).1 hb
          exact ⟨p, hp, ho⟩
        · rw [List.mem_singleton.1 hb] at ho
          simp [Ans.odd] at ho
    rw [he]
  · rw [if_pos hs, if_pos hs]
end Go.Proofs.YthfdngjbcgkkfaaGreat

namespace Go.Proofs.YthfdngjbcgkkfaaGreat
open Go.RowKit Go
namespace MapS
variable {P : Program} {kt : TypeId} {κ : Type} [DecidableEq κ] {α : Type} {K : KT P kt κ} {vf : α → Value} {w w' : World} {b r : Nat} {L R : Es κ α}
theorem Rg.lt (h : Rg K vf w b r L R) : b < w.heap.size ∧ r < w.heap.size ∧ r ≠ b := by
  obtain ⟨⟨n, D, left, cnt, hr, _⟩, _⟩ := h
  exact ⟨hr.owns.lt, hr.lt, hr.ne⟩
theorem Rg.kept {S : List Nat} (h : Rg K vf w b r L R) (hk : Keeps S w w') (hb : b ∉ S) (hr : r ∉ S) : Rg K vf w' b r L R := by
  obtain ⟨hl1, hl2, _⟩ := h.lt
  obtain ⟨⟨n, D, left, cnt, ⟨es, clock, since, seen, c0, e1, F, hs, hD, e2, rest⟩, hR⟩, h2, h3, h4, h5⟩ := h
  exact ⟨⟨n, D, left, cnt, ⟨es, clock, since, seen, c0, (hk.block b hl1 hb).trans e1, F, hs, hD, (hk.block r hl2 hr).trans e2, rest⟩, hR⟩, h2, h3, h4, h5⟩
theorem Rg.keeps (h : Rg K vf w b r L R) (hk : Keeps [] w w') : Rg K vf w' b r L R := h.kept hk (by simp) (by simp)
theorem del_self {x : κ} : ∀ {L : Es κ α}, x ∉ L.map (·.1) → del x L = L := fun {L} h => List.filter_eq_self.2 (fun p hp => by
  have : p.1 ≠ x := fun e => h (List.mem_map.2 ⟨p, hp, e⟩)
  simp [this])
theorem perm_del {x : κ} {u : α} : ∀ {L : Es κ α}, ND L → (x, u) ∈ L → L.Perm ((x, u) :: del x L)
  | [], _, h => by simp at h
  | q :: s, hn, hm => by
    obtain ⟨n1, n2⟩ := List.nodup_cons.1 hn
    rcases List.mem_cons.1 hm with rfl | hm
    · have : del x ((x, u) :: s) = s := by
        have hs := del_self (x := x) (L := s) n1
        unfold del at hs ⊢
        rw [List.filter_cons_of_neg (by simp)]; exact hs
      rw [this]
    · have hqx : q.1 ≠ x := fun e => n1 (List.mem_map.2 ⟨(x, u), hm, e.symm⟩)
      have : del x (q :: s) = q :: del x s := by unfold del; rw [List.filter_cons_of_pos (by simp [hqx])]
      rw [this]
      exact ((perm_del n2 hm).cons q).trans (List.Perm.swap _ _ _)
end MapS
end Go.Proofs.YthfdngjbcgkkfaaGreat

namespace Go.Proofs.YthfdngjbcgkkfaaGreat
open Go.RowKit

/-- What is still to come of the recorded answers. -/
theorem LR.next {w : World} {R R' : List (Qn × AnV)} {Y : List (Qn × Ans)} {x : Qn} {u : AnV} (h : LR w R Y) (hn : MapS.ND R) (hY : MapS.ND Y) (hm : (x, u) ∈ R) (hp : R.Perm ((x, u) :: R')) :
    ∃ y, InA w u y ∧ Y.Perm ((x, y) :: MapS.del x Y) ∧ LR w R' (MapS.del x Y) ∧ MapS.ND (MapS.del x Y) := by
  have hgx := MapS.get_of_mem hn hm
  rcases h.2 x with ⟨h1, _⟩ | ⟨u', y, h1, h2, h3⟩
  · rw [hgx] at h1; cases h1
  · rw [hgx] at h1
    cases h1
    have hpy := MapS.perm_del hY (MapS.get_mem h2)
    refine ⟨y, h3, hpy, ⟨?_, fun q => ?_⟩, MapS.nd_del hY⟩
    · have e1 := hp.length_eq
      have e2 := hpy.length_eq
      have e3 := h.1
      simp at e1 e2; omega
    · have hn' : MapS.ND ((x, u) :: R') := by
        have h1 : (R.map (fun p => p.1)).Nodup := hn
        exact (hp.map (fun p => p.1)).nodup_iff.1 h1
      have hg : MapS.get q R = MapS.get q ((x, u) :: R') := MapS.get_perm hn' hp.symm
      have hnx : MapS.get x R' = none := MapS.get_none.2 (fun p hp e => (List.nodup_cons.1 hn').1 (List.mem_map.2 ⟨p, hp, e⟩))
      rw [MapS.get_del]
      by_cases e : q = x
      · subst e
        exact .inl ⟨hnx, by rw [if_pos rfl]⟩
      · rw [if_neg e]
        have : MapS.get q R' = MapS.get q R := by
          rw [hg]
          have e' : ¬ x = q := fun h => e h.symm
          simp [MapS.get, e']
        rw [this]
        exact h.2 q
/-- A sorted list of answers is the only one. -/
theorem sortedA_uniq : ∀ {Y Z : List Ans}, Y.Perm Z → Y.Pairwise (fun x y => qlt x.q y.q) → Z.Pairwise (fun x y => qlt x.q y.q) → Y = Z
  | [], Z, hp, _, _ => by simpa using hp.symm
  | y :: Y, [], hp, _, _ => by simp at hp
  | y :: Y, z :: Z, hp, h1, h2 => by
    have e : y = z := by
      obtain ⟨a1, _⟩ := List.pairwise_cons.1 h1
      obtain ⟨b1, _⟩ := List.pairwise_cons.1 h2
      have hy : y ∈ z :: Z := hp.mem_iff.1 (by simp)
      have hz : z ∈ y :: Y := hp.mem_iff.2 (by simp)
      rcases List.mem_cons.1 hy with e | hy
      · exact e
      · rcases List.mem_cons.1 hz with e | hz
        · exact e.symm
        · exact absurd (qlt_trans (a1 z hz) (b1 y hy)) (qlt_irrefl _)
    subst e
    rw [sortedA_uniq (List.perm_cons _ |>.1 hp) (List.pairwise_cons.1 h1).2 (List.pairwise_cons.1 h2).2]
/-- The recorded answers in their order. -/
def SortedA (t : Tr) (Y : List Ans) : Prop := Y.Perm (t.rec'.map (·.2)) ∧ Y.Pairwise (fun x y => qlt x.q y.q)
theorem SortedA.uniq {t : Tr} {Y Z : List Ans} (h : SortedA t Y) (h2 : SortedA t Z) : Y = Z := sortedA_uniq (h.1.trans h2.1.symm) h.2 h2.2
/-- The order of cells and of answers. -/
theorem LA.perm {w : World} {X X' : List AnV} {Y : List Ans} (h : LA w X Y) (hp : X'.Perm X) : ∃ Y', Y'.Perm Y ∧ LA w X' Y' := by
  induction hp generalizing Y with
  | nil => exact ⟨Y, List.Perm.refl _, h⟩
  | @cons x l1 l2 hp ih =>
    cases Y with
    | nil => have := h.1; simp at this
    | cons y Y =>
      have h0 := h.2 0 x y rfl rfl
      obtain ⟨Y', p, hl⟩ := ih (Y := Y) ⟨by have := h.1; simpa using this, fun k a b ha hb => h.2 (k + 1) a b (by simpa using ha) (by simpa using hb)⟩
      refine ⟨y :: Y', p.cons y, by simp [hl.1], fun k a b ha hb => ?_⟩
      cases k with
      | zero => simp at ha hb; subst ha hb; exact h0
      | succ k => exact hl.2 k a b (by simpa using ha) (by simpa using hb)
  | @swap x y l =>
    match Y, h with
    | [], h => have := h.1; simp at this
    | [_], h => have := h.1; simp at this
    | a :: b :: Y, h =>
      have h0 := h.2 0 _ _ rfl rfl
      have h1 := h.2 1 _ _ rfl rfl
      refine ⟨b :: a :: Y, List.Perm.swap _ _ _, by have := h.1; simpa using this, fun k u v hu hv => ?_⟩
      match k with
      | 0 => simp at hu hv; subst hu hv; exact h1
      | 1 => simp at hu hv; subst hu hv; exact h0
      | k + 2 => exact h.2 (k + 2) u v (by simpa using hu) (by simpa using hv)
  | trans p1 p2 ih1 ih2 =>
    obtain ⟨Y1, q1, h1⟩ := ih2 h
    obtain ⟨Y2, q2, h2⟩ := ih1 h1
    exact ⟨Y2, q2.trans q1, h2⟩
theorem LA.keys {w : World} {X : List AnV} {Y : List Ans} (h : LA w X Y) : X.map AnV.q = Y.map Ans.q := by
  refine List.ext_getElem (by simp [h.1]) (fun k h1 h2 => ?_)
  simp only [List.getElem_map]
  exact (h.2 k _ _ (List.getElem?_eq_getElem _) (List.getElem?_eq_getElem _)).q
set_option maxRecDepth 100000 in
set_option maxHeartbeats 10000000 in
theorem answers_c (w : World) (B bt bm : Nat) (vo vh vg : Value) (t : Tr) (h : TrM w B bt bm vo vh vg t) (hl : t.qs.length ≤ 100000) :
    Calls Tryz.prog 55 #[.pointer (some ⟨bt, 0, none⟩)] w fun e w' => ∃ v X Y, e = .returned v ∧ shA.O w' w.heap.size tA v X ∧ LA w' X Y ∧ SortedA t Y ∧ Keeps [] w w' := by
  obtain ⟨R, hR, hRL⟩ := h.mp
  have hrl := (rec_len t.qs).1
  have hnd := recOf_nd h.inv.nd
  have hro := h.inv.ro
  have hrq := h.inv.rq
  have c7 := h.cells.2.2.2.2.2.2.2.1
  have hlt := h.lt
  have hRlen : R.length ≤ 100000 := by have := hRL.1; simp only [Tr.rec'] at this; omega
  replace hR := Lib.hid hR
  replace hRL := Lib.hid hRL
  replace hnd := Lib.hid hnd
  replace hro := Lib.hid hro
  replace hrq := Lib.hid hrq
  clear h
  go_enter Tryz.func55, Tryz.ntmps55
  go_wp2_with (at_range; refine MapS.wpl_range ktQ rfl _ rfl Tryz.underlying66 rfl hR.out ?_; intro w1 hrg1 hg1 hs1)
  have hk1 : Keeps [] w w1 := (Keeps.refl [] w).grown hg1 (by simp)
  have hRL1 := hRL.out.ki hk1.ki0
  have hns : (t.rec'.map (fun p => p.1)).Nodup := hnd.out
  replace hrg1 := Lib.hid hrg1
  replace hk1 := Lib.hid hk1
  replace hRL1 := Lib.hid hRL1
  replace hns := Lib.hid hns
  clear hR hRL hg1
  go_frame
  go_loopg [3] R.length (fun n ov wr => ∃ (rs : List (Qn × AnV)) (Yd Yr : List (Qn × Ans)) (X : List AnV), n = rs.length ∧ Hid (MapS.Rg ktQ aV wr bm w.heap.size R rs) ∧ Hid (LR wr rs Yr) ∧ Hid (MapS.ND Yr) ∧ Hid ((Yd ++ Yr).Perm t.rec') ∧ Hid (shA.O wr w.heap.size tA ov X) ∧ Hid (LA wr X (Yd.map (·.2))) ∧ Hid (Keeps [] w wr))
  case atStart => exact ⟨R, [], t.rec', [], rfl, hrg1, hRL1, hnd, by simp [Hid], Sh.O.nil _ _ _ _, LA.nil _, hk1⟩
  case round =>
    obtain ⟨rs, Yd, Yr, X, rfl, hrg, hLR, hNr, hP, hO, hLA, hkw⟩ := hrel
    obtain ⟨oa, oc, rfl⟩ := hO.out.form
    obtain ⟨NN, hNN⟩ : ∃ n, X.length = n := ⟨_, rfl⟩
    have hNl : NN ≤ 100000 := by
      have h1 := hP.out.length_eq
      have h2 := hLA.out.1
      have h3 : t.rec'.length = (recOf t.qs).length := rfl
      simp at h1 h2; omega
    rw [hNN] at hO ⊢
    replace hNN := Lib.hid hNN
    go_wp2_with (at_next; refine MapS.wpl_next ktQ rfl _ rfl rfl hrg.out ?_ ?_)
    case _ =>
      intro hrs
      subst hrs
      have hYr : Yr = [] := by have := hLR.out.1; simpa [eq_comm] using this
      subst hYr
      have hP2 : Yd.Perm t.rec' := by simpa using hP.out
      have hsort := sortA_c wr w.heap.size _ X hO.out (by rw [hNN.out]; omega)
      replace hsort := Lib.hid hsort
      replace hP2 := Lib.hid hP2
      clear hP hrg hLR hNr
      go_wp2_with fail
      refine hsort.out.mono ?_
      rintro e w2 ⟨rfl, X', hp, hpw, hO2, hk2⟩
      have hk2' : Keeps [] w w2 := hkw.out.fresh hk2 (fun b hb => .inr (hO.out.ge b (by simpa using hb)))
      have hi2 : KI wr w2 := hk2.ki (fun b hb cs f e => by
        obtain ⟨cs', hc⟩ := hO.out.tag b (by simpa using hb)
        exact tag_ne hc e (by decide) rfl)
      obtain ⟨Y', hpy, hL2⟩ := (hLA.out.ki hi2).perm hp
      have hPY : Y'.Perm (t.rec'.map (·.2)) := hpy.trans (hP2.out.map _)
      have hkeys : (t.rec'.map (·.2)).map Ans.q = t.rec'.map (fun p => p.1) := by
        rw [List.map_map]
        exact List.map_congr_left (fun p hp => hrq.out p hp)
      have hnY : (Y'.map Ans.q).Nodup := by
        have := (hPY.map Ans.q)
        rw [hkeys] at this
        exact this.nodup_iff.2 hns.out
      have hpY : (Y'.map Ans.q).Pairwise (fun x y => ¬ qlt y x) := by
        rw [← hL2.keys]
        exact List.pairwise_map.2 hpw
      have hstr : Y'.Pairwise (fun x y => qlt x.q y.q) := by
        have := List.Pairwise.and hpY hnY
        exact List.pairwise_map.1 (this.imp (fun {x y} h => by
          by_cases h2 : qlt x y
          · exact h2
          · exact absurd (qlt_total h2 h.1) h.2))
      have hfin : ∃ Xa Ya, shA.O w2 w.heap.size tA (.slice oa NN oc) Xa ∧ LA w2 Xa Ya ∧ SortedA t Ya ∧ Keeps [] w w2 := ⟨X', Y', hO2, hL2, ⟨hPY, hstr⟩, hk2'⟩
      replace hfin := Lib.hid hfin
      clear hpw hO2 hk2 hk2' hi2 hpy hL2 hPY hkeys hnY hpY hstr hp hsort hO hLA hkw
      go_wp2
      go_ret
      obtain ⟨Xa, Ya, f1, f2, f3, f4⟩ := hfin.out
      exact ⟨_, Xa, Ya, rfl, f1, f2, f3, f4⟩
    case _ =>
      intro x0 x1 x2 u R' w2 hok hgu hum hperm hrg2 hg2 hs2 hen
      have hns2 : MapS.ND rs := by obtain ⟨_, _, h3, _⟩ := hrg.out; exact h3
      obtain ⟨y, hxy, hpY, hLR2, hN2⟩ := hLR.out.next hns2 hNr.out hum hperm
      have hk2 : Keeps [] w w2 := hkw.out.grown hg2 (fun k e => by simp at e; subst e; exact .inl (Nat.le_refl _))
      have hk2r : Keeps [w.heap.size] wr w2 := Keeps.of_grown hg2
      have hi2 : KI wr w2 := hk2r.ki (fun b hb cs f e => by
        simp at hb; subst hb
        obtain ⟨⟨n, D, left, cnt, ⟨es, clock, since, seen, c0, e1, F, hs, hD, e2, rest⟩, hR⟩, _⟩ := hrg.out
        rw [e2] at e; cases e)
      have hO2 : shA.O w2 w.heap.size tA (.slice oa NN oc) X := hO.out.keepS hk2r (fun b hb e => by
        simp at hb; subst hb
        obtain ⟨cs, hc⟩ := hO.out.tag _ e
        obtain ⟨⟨n, D, left, cnt, ⟨es, clock, since, seen, c0, e1, F, hs, hD, e2, rest⟩, hR⟩, _⟩ := hrg.out
        rw [hc] at e2; cases e2)
      have hLA2 := hLA.out.ki hi2
      have hyo : y.Ok := by
        have : (( x0, x1, x2), y) ∈ t.rec' := hP.out.mem_iff.1 (List.mem_append_right _ (hpY.mem_iff.2 (by simp)))
        exact hro.out _ this
      have hxy2 := hxy.ki hi2
      have hLR3 := hLR2.ki hi2
      have hrl2 : R'.length < rs.length := by have := hperm.length_eq; simp at this; omega
      have hP3 : ((Yd ++ [((x0, x1, x2), y)]) ++ MapS.del (x0, x1, x2) Yr).Perm t.rec' := by
        rw [List.append_assoc]
        exact ((List.Perm.refl Yd).append hpY.symm).trans hP.out
      obtain ⟨u0, u1, u2, u3, u4, u5, u6, u7, u8, u9⟩ := u
      have hcop := fun (W : World) (hk : Keeps [] w2 W) => copied_c W ⟨u0, u1, u2, u3, u4, u5, u6, u7, u8, u9⟩ y.ins (hxy2.ins.r.keeps hk) (by have := hyo.len; omega)
      simp only [ktQ, qV, aV, AnV.v] at hen hcop
      replace hcop := Lib.hid hcop
      replace hxy2 := Lib.hid hxy2
      replace hLR3 := Lib.hid hLR3
      replace hP3 := Lib.hid hP3
      replace hN2 := Lib.hid hN2
      replace hrg2 := Lib.hid hrg2
      replace hO2 := Lib.hid hO2
      replace hLA2 := Lib.hid hLA2
      replace hk2 := Lib.hid hk2
      clear hg2 hk2r hi2 hxy hpY hLR2 hns2 hgu hum hok hyo hP hrg hLR hNr hO hLA hkw hperm
      go_wp2_with fail
      refine (hcop.out _ ((Keeps.refl [] _).alloc _)).mono ?_
      rintro e w3 ⟨⟨z0, z1, z2, z3, z4, z5, z6, z7, z8, z9⟩, rfl, f0, f1, f2, f3, f4, f5, f6, hIO, hk3⟩
      simp only at f0 f1 f2 f3 f4 f5 f6
      subst f0 f1 f2 f3 f4 f5 f6
      have hk23 : Keeps [] w2 w3 := ((Keeps.refl [] w2).alloc _).trans hk3
      have hO3 := (hO2.out.keeps hk23).keeps ((Keeps.refl [] w3).alloc (.cells #[.int .i64 z0, .int .i64 z1, .int .u64 z2, .int .i64 z3, .bool z4, .bool z5, .int .i64 z6, .slice z7 z8 z9] tA))
      have hk34 := hk23.trans ((Keeps.refl [] w3).alloc (.cells #[.int .i64 z0, .int .i64 z1, .int .u64 z2, .int .i64 z3, .bool z4, .bool z5, .int .i64 z6, .slice z7 z8 z9] tA))
      have hmade := Sh.O.one shA w3 (⟨z0, z1, z2, z3, z4, z5, z6, z7, z8, z9⟩ : AnV) #[.int .i64 z0, .int .i64 z1, .int .u64 z2, .int .i64 z3, .bool z4, .bool z5, .int .i64 z6, .slice z7 z8 z9] tA 0 rfl (by omega)
      have hwz := (hk2.out.trans hk34).size
      have hxy3 : InA w3 ⟨z0, z1, z2, z3, z4, z5, z6, z7, z8, z9⟩ y := ⟨hxy2.out.m, hxy2.out.ow, hxy2.out.n, hxy2.out.ep, hxy2.out.kn, hxy2.out.rt, hxy2.out.lu, hIO⟩
      simp only [AnV.v] at hIO
      replace hO3 := Lib.hid hO3
      replace hk34 := Lib.hid hk34
      replace hmade := Lib.hid hmade
      replace hxy3 := Lib.hid hxy3
      clear hO2 hcop hIO hk3 hk23 hxy2
      go_wp2_with (at_builtin; go_loud (refine Sh.wpl_app shA w.heap.size infoA rfl Tryz.underlying33 (.slice oa NN oc) (.slice (some ⟨w3.heap.size, 0, none⟩) 1 1) X [(⟨z0, z1, z2, z3, z4, z5, z6, z7, z8, z9⟩ : AnV)] rfl _ _ rfl rfl rfl hO3.out hmade.out.r (by rw [hNN.out]; simp; omega) (by simp at hwz; simp; omega) ?_; intro v5 w5 hO5 hG5; have hk45 := Sh.O.grew (hk2.out.trans hk34.out) hO3.out hG5 (Nat.le_refl _); have hGk := hG5.keepsO; clear hG5; replace hO5 := Lib.hid hO5; replace hk45 := Lib.hid hk45; replace hGk := Lib.hid hGk))
      have hi35 : KI (w3.alloc (.cells #[.int .i64 z0, .int .i64 z1, .int .u64 z2, .int .i64 z3, .bool z4, .bool z5, .int .i64 z6, .slice z7 z8 z9] tA)) w5 := hGk.out.ki (fun b hb cs f e => by
        obtain ⟨cs', hc⟩ := hO3.out.tag b (by simpa using hb)
        exact tag_ne hc e (by decide) rfl)
      have hi25 : KI w2 w5 := hk34.out.ki0.trans hi35
      have hrg3 := hrg2.out.keeps hk34.out
      have hnot : ∀ b, (∃ es c, w2.heap[b]? = some (Obj.map es c)) ∨ (∃ a s n c, w2.heap[b]? = some (Obj.mapIter a s n c)) → b < w2.heap.size → b ∉ (Value.slice oa NN oc).ownBlock.toList := fun b hb hl hm => by
        obtain ⟨cs', hc⟩ := hO3.out.tag b (by simpa using hm)
        rw [hk34.out.block b hl (by simp)] at hc
        rcases hb with ⟨es, c, e⟩ | ⟨a, s, n, c, e⟩
        · rw [e] at hc; cases hc
        · rw [e] at hc; cases hc
      have hrg5 : MapS.Rg ktQ aV w5 bm w.heap.size R R' := by
        obtain ⟨l1, l2, _⟩ := hrg2.out.lt
        obtain ⟨⟨n, D, left, cnt, ⟨es, clock, since, seen, c0, e1, F, hs, hD, e2, rest⟩, hR⟩, _⟩ := id hrg2.out
        exact hrg3.kept hGk.out (hnot _ (.inl ⟨_, _, e1⟩) l1) (hnot _ (.inr ⟨_, _, _, _, e2⟩) l2)
      have hL5 := (hLA2.out.ki hi25).snoc (hxy3.out.ki (((Keeps.refl [] w3).alloc _).ki0.trans hi35))
      rw [show Yd.map (·.2) ++ [y] = (Yd ++ [((x0, x1, x2), y)]).map (·.2) by simp] at hL5
      have hLR5 := hLR3.out.ki hi25
      replace hrg5 := Lib.hid hrg5
      replace hL5 := Lib.hid hL5
      replace hLR5 := Lib.hid hLR5
      clear hi35 hi25 hrg3 hnot hrg2 hLA2 hLR3 hO3 hk34 hGk hxy3 hmade
      go_wp2
      go_roundg R'.length
      case measure => exact hrl2
      case rel => exact ⟨R', _, _, _, rfl, hrg5, hLR5, hN2, hP3, hO5, hL5, hk45⟩
end Go.Proofs.YthfdngjbcgkkfaaGreat

namespace Go.Proofs.YthfdngjbcgkkfaaGreat
open Go.RowKit

/-- A claim. -/
structure PCl where
  m : Int
  ep : Int
  st : List T3
  sc : List T3
  ch : List T3
  deriving DecidableEq
def PCl.at (x : PCl) : Nat → List T3
  | 0 => x.st
  | 1 => x.sc
  | _ => x.ch
def PCl.upd (x : PCl) (j : Nat) (L : List T3) : PCl := match j with
  | 0 => { x with st := L }
  | 1 => { x with sc := L }
  | _ => { x with ch := L }
abbrev SlT := Option Addr × Nat × Nat
abbrev nilT : SlT := (none, 0, 0)
def rowsC (P : List PCl) (V : Nat → Nat → SlT) : List ClV := P.mapIdx (fun k p => ⟨p.m, p.ep, V k 0, V k 1, V k 2⟩)
theorem rowsC_len (P : List PCl) (V : Nat → Nat → SlT) : (rowsC P V).length = P.length := by simp [rowsC]
theorem rowsC_get (P : List PCl) (V : Nat → Nat → SlT) (k : Nat) (hk : k < P.length) : (rowsC P V)[k]'(by rw [rowsC_len]; exact hk) = ⟨P[k].m, P[k].ep, V k 0, V k 1, V k 2⟩ := by simp [rowsC]
def updV (V : Nat → Nat → SlT) (k j : Nat) (v : SlT) : Nat → Nat → SlT := fun a b => if a = k ∧ b = j then v else V a b
structure CL (w : World) (B : Nat) (vc : Value) (P : List PCl) (V : Nat → Nat → SlT) : Prop where
  c : shC.O w B tC vc (rowsC P V)
  o : ∀ k j (hk : k < P.length), j < 3 → shT.O w B tN (slv (V k j)) (P[k].at j)
  d : ∀ k j k' j' b, k < P.length → j < 3 → k' < P.length → j' < 3 → (slv (V k j)).ownBlock = some b → (slv (V k' j')).ownBlock = some b → k = k' ∧ j = j'
theorem CL.nil (w : World) (B : Nat) (V : Nat → Nat → SlT) : CL w B (.slice none 0 0) [] V := ⟨Sh.O.nil _ _ _ _, fun k j hk => by simp at hk, fun k j k' j' b hk => by simp at hk⟩
namespace CL
variable {w w' : World} {B : Nat} {vc vc' : Value} {P : List PCl} {V : Nat → Nat → SlT}
theorem keeps (h : CL w B vc P V) (hk : Keeps [] w w') : CL w' B vc P V := ⟨h.c.keeps hk, fun k j h1 h2 => (h.o k j h1 h2).keeps hk, h.d⟩
/-- The rows' blocks are no needs' blocks. -/
theorem ne (h : CL w B vc P V) {k j b : Nat} (hk : k < P.length) (hj : j < 3) (h1 : (slv (V k j)).ownBlock = some b) : vc.ownBlock ≠ some b := fun e => by
  obtain ⟨cs, h2⟩ := (h.o k j hk hj).tag b h1
  obtain ⟨cs', h3⟩ := h.c.tag b e
  exact tag_ne h2 h3 (by decide) rfl
theorem push (h : CL w B vc P V) (m ep : Int) (hG : Grw w w' vc vc') (hO : shC.O w' B tC vc' (rowsC P V ++ [⟨m, ep, nilT, nilT, nilT⟩])) :
    CL w' B vc' (P ++ [⟨m, ep, [], [], []⟩]) (fun a b => if a = P.length then nilT else V a b) := by
  have hk := hG.keepsO
  refine ⟨?_, fun k j hk2 hj => ?_, fun k j k' j' b h1 h2 h3 h4 e1 e2 => ?_⟩
  · have e : rowsC (P ++ [⟨m, ep, [], [], []⟩]) (fun a b => if a = P.length then nilT else V a b) = rowsC P V ++ [⟨m, ep, nilT, nilT, nilT⟩] := by
      refine List.ext_getElem (by simp [rowsC_len]) (fun k h1 h2 => ?_)
      have hk1 : k < P.length + 1 := by simpa [rowsC_len] using h1
      rw [rowsC_get _ _ k (by simpa using hk1)]
      by_cases e : k = P.length
      · subst e
        simp [List.getElem_append, rowsC_len]
      · have hlt : k < P.length := by omega
        rw [show (rowsC P V ++ [⟨m, ep, nilT, nilT, nilT⟩])[k] = (rowsC P V)[k]'(by rw [rowsC_len]; exact hlt) from List.getElem_append_left _, rowsC_get P V k hlt]
        simp [List.getElem_append_left hlt, e]
    rw [e]; exact hO
  · by_cases e : k = P.length
    · subst e
      simp only [if_true]
      have : (P ++ [(⟨m, ep, [], [], []⟩ : PCl)])[P.length].at j = [] := by
        simp only [List.getElem_concat_length]
        unfold PCl.at; split <;> rfl
      rw [this]
      exact Sh.O.nil _ _ _ _
    · have hlt : k < P.length := by simp at hk2; omega
      simp only [if_neg e, List.getElem_append_left hlt]
      refine (h.o k j hlt hj).keepS hk (fun b hb e => ?_)
      exact h.ne hlt hj e (by simpa using hb)
  · have n1 : k ≠ P.length := fun e => by subst e; simp [slv, Value.ownBlock] at e1
    have n2 : k' ≠ P.length := fun e => by subst e; simp [slv, Value.ownBlock] at e2
    simp only [if_neg n1] at e1
    simp only [if_neg n2] at e2
    simp at h1 h3
    exact h.d k j k' j' b (by omega) h2 (by omega) h4 e1 e2
theorem at_upd (x : PCl) (j j' : Nat) (L : List T3) (hj : j < 3) (hj' : j' < 3) : (x.upd j L).at j' = if j' = j then L else x.at j' := by
  match j, j', hj, hj' with
  | 0, 0, _, _ => rfl
  | 0, 1, _, _ => rfl
  | 0, 2, _, _ => rfl
  | 1, 0, _, _ => rfl
  | 1, 1, _, _ => rfl
  | 1, 2, _, _ => rfl
  | 2, 0, _, _ => rfl
  | 2, 1, _, _ => rfl
  | 2, 2, _, _ => rfl
theorem upd_m (x : PCl) (j : Nat) (L : List T3) : (x.upd j L).m = x.m ∧ (x.upd j L).ep = x.ep := by unfold PCl.upd; split <;> exact ⟨rfl, rfl⟩
/-- One list of needs turns, in its own block. -/
theorem turn (h : CL w B vc P V) {k j : Nat} (hk : k < P.length) (hj : j < 3) {L' : List T3} (hK : Keeps (slv (V k j)).ownBlock.toList w w') (hO : shT.O w' B tN (slv (V k j)) L') : CL w' B vc (P.set k (P[k].upd j L')) V := by
  refine ⟨?_, fun k' j' hk' hj' => ?_, fun k' j' k2 j2 b h1 h2 h3 h4 e1 e2 => h.d k' j' k2 j2 b (by simpa using h1) h2 (by simpa using h3) h4 e1 e2⟩
  · have e : rowsC (P.set k (P[k].upd j L')) V = rowsC P V := by
      refine List.ext_getElem (by simp [rowsC_len]) (fun i h1 h2 => ?_)
      have hi : i < P.length := by simpa [rowsC_len] using h2
      rw [rowsC_get _ _ i (by simpa using hi), rowsC_get P V i hi]
      rw [List.getElem_set]
      split
      · rename_i e; subst e; rw [(upd_m _ _ _).1, (upd_m _ _ _).2]
      · rfl
    rw [e]
    exact h.c.keepS hK (fun b hb e => h.ne hk hj (by simpa using hb) e)
  · have hk2 : k' < P.length := by simpa using hk'
    rw [List.getElem_set]
    by_cases e : k = k'
    · subst e
      rw [if_pos rfl, at_upd _ _ _ _ hj hj']
      by_cases ej : j' = j
      · subst ej; rw [if_pos rfl]; exact hO
      · rw [if_neg ej]
        exact (h.o k j' hk hj').keepS hK (fun b hb e => ej (h.d k j k j' b hk hj hk hj' (by simpa using hb) e).2.symm)
    · rw [if_neg e]
      exact (h.o k' j' hk2 hj').keepS hK (fun b hb e2 => e (h.d k j k' j' b hk hj hk2 hj' (by simpa using hb) e2).1)
/-- One list of needs has grown; the row's cell is stored. -/
theorem app {g n c : Nat} (h : CL w B (.slice (some ⟨g, 0, none⟩) n c) P V) {k j : Nat} (hk : k < P.length) (hj : j < 3) {L' : List T3} {v' : SlT} (hG : Grw w w' (slv (V k j)) (slv v')) (hO : shT.O w' B tN (slv v') L') :
    CL (w'.setCell ⟨g, k * 5 + (2 + j), none⟩ (slv v')) B (.slice (some ⟨g, 0, none⟩) n c) (P.set k (P[k].upd j L')) (updV V k j v') := by
  have hK := hG.keepsO
  have hcK : shC.O w' B tC (.slice (some ⟨g, 0, none⟩) n c) (rowsC P V) := h.c.keepS hK (fun b hb e => h.ne hk hj (by simpa using hb) e)
  have hk2 : Keeps [g] w' (w'.setCell ⟨g, k * 5 + (2 + j), none⟩ (slv v')) := (Keeps.refl _ _).setCell (.inr (by simp)) _
  have hgt : ∃ cs, w'.heap[g]? = some (Obj.cells cs tC (0, 0)) := hcK.tag g (by simp [Value.ownBlock])
  have hne : ∀ {L : List T3} {v : Value}, shT.O w' B tN v L → v.ownBlock ≠ some g := fun hO e => by
    obtain ⟨cs, hc⟩ := hO.tag g e
    obtain ⟨cs', hc'⟩ := hgt
    exact tag_ne hc hc' (by decide) rfl
  refine ⟨?_, fun k' j' hk' hj' => ?_, fun k' j' k2 j2 b h1 h2 h3 h4 e1 e2 => ?_⟩
  · have hkr : k < (rowsC P V).length := by rw [rowsC_len]; exact hk
    have hs := hcK.set hkr ⟨P[k].m, P[k].ep, updV V k j v' k 0, updV V k j v' k 1, updV V k j v' k 2⟩ (2 + j) (slv v') (by
      rw [rowsC_get P V k hk]
      match j, hj with
      | 0, _ => simp [shC, ClV.cs, updV]
      | 1, _ => simp [shC, ClV.cs, updV]
      | 2, _ => simp [shC, ClV.cs, updV]) (by show 2 + j < 5; omega) rfl
    have e : rowsC (P.set k (P[k].upd j L')) (updV V k j v') = (rowsC P V).set k ⟨P[k].m, P[k].ep, updV V k j v' k 0, updV V k j v' k 1, updV V k j v' k 2⟩ := by
      refine List.ext_getElem (by simp [rowsC_len]) (fun i h1 h2 => ?_)
      have hi : i < P.length := by simpa [rowsC_len] using h2
      rw [rowsC_get _ _ i (by simpa using hi), List.getElem_set, List.getElem_set]
      by_cases e : k = i
      · subst e; rw [if_pos rfl, if_pos rfl, (upd_m _ _ _).1, (upd_m _ _ _).2]
      · have e' : ¬ i = k := fun h => e h.symm
        rw [if_neg e, if_neg e, rowsC_get P V i hi]
        simp [updV, e']
    rw [e]; exact hs
  · have hk3 : k' < P.length := by simpa using hk'
    rw [List.getElem_set]
    by_cases e : k = k'
    · subst e
      rw [if_pos rfl, at_upd _ _ _ _ hj hj']
      by_cases ej : j' = j
      · subst ej
        rw [if_pos rfl]
        simp only [updV, and_self, if_true]
        exact hO.keepS hk2 (fun b hb e => by simp at hb; subst hb; exact hne hO e)
      · rw [if_neg ej]
        simp only [updV, ej, and_false, if_false]
        have h1 : shT.O w' B tN (slv (V k j')) (P[k].at j') := (h.o k j' hk hj').keepS hK (fun b hb e => ej (h.d k j k j' b hk hj hk hj' (by simpa using hb) e).2.symm)
        exact h1.keepS hk2 (fun b hb e => by simp at hb; subst hb; exact hne h1 e)
    · rw [if_neg e]
      have e' : ¬ k' = k := fun h => e h.symm
      simp only [updV, e', false_and, if_false]
      have h1 : shT.O w' B tN (slv (V k' j')) (P[k'].at j') := (h.o k' j' hk3 hj').keepS hK (fun b hb e2 => e (h.d k j k' j' b hk hj hk3 hj' (by simpa using hb) e2).1)
      exact h1.keepS hk2 (fun b hb e => by simp at hb; subst hb; exact hne h1 e)
  · have l1 : k' < P.length := by simpa using h1
    have l2 : k2 < P.length := by simpa using h3
    have old : ∀ a c, a < P.length → c < 3 → (slv (V a c)).ownBlock = some b → b < w.heap.size := fun a c ha hc e => (h.o a c ha hc).lt b e
    by_cases c1 : k' = k ∧ j' = j
    · by_cases c2 : k2 = k ∧ j2 = j
      · exact ⟨c1.1.trans c2.1.symm, c1.2.trans c2.2.symm⟩
      · exfalso
        obtain ⟨rfl, rfl⟩ := c1
        simp only [updV, and_self, if_true] at e1
        simp only [updV, if_neg c2] at e2
        rcases hG.own with e3 | ⟨q, e3, hq⟩
        · rw [e3] at e1
          have := h.d k' j' k2 j2 b l1 h2 l2 h4 e1 e2
          exact c2 ⟨this.1.symm, this.2.symm⟩
        · rw [e3] at e1; cases e1
          have := old k2 j2 l2 h4 e2; omega
    · by_cases c2 : k2 = k ∧ j2 = j
      · exfalso
        obtain ⟨rfl, rfl⟩ := c2
        simp only [updV, and_self, if_true] at e2
        simp only [updV, if_neg c1] at e1
        rcases hG.own with e3 | ⟨q, e3, hq⟩
        · rw [e3] at e2
          exact c1 (h.d k' j' k2 j2 b l1 h2 l2 h4 e1 e2)
        · rw [e3] at e2; cases e2
          have := old k' j' l1 h2 e1; omega
      · simp only [updV, if_neg c1] at e1
        simp only [updV, if_neg c2] at e2
        exact h.d k' j' k2 j2 b l1 h2 l2 h4 e1 e2
end CL
end Go.Proofs.YthfdngjbcgkkfaaGreat

namespace Go.Proofs.YthfdngjbcgkkfaaGreat
open Go.RowKit

abbrev tE : Nat := 110
theorem eLaw : WideMaps.KeyLaw Tryz.prog tE := deep_law_laid laidOut (m := 4) (by omega) (of_decide_eq_true (by kernel_rfl)) (by kernel_rfl) (by rw [Tryz.underlying110])
theorem e_key (x : Qn) (h : qOk x) : ∃ l, keyOf Tryz.prog tE (qV x) = some l := by
  obtain ⟨m, o, n⟩ := x
  obtain ⟨hm, ho, hn⟩ := h
  simp only at hm ho hn
  obtain ⟨d, hd⟩ : ∃ d, Tryz.prog.types.size = d + 2 := ⟨Tryz.prog.types.size - 2, by have : 2 ≤ Tryz.prog.types.size := of_decide_eq_true (by kernel_rfl); omega⟩
  have h1 : Tryz.prog.keyType tE = true := by kernel_rfl
  have h2 : (qV (m, o, n)).formed Tryz.prog tE = true := by kernel_rfl
  have c1 : Tryz.prog.cellsOf tE = 3 := by kernel_rfl
  have c3 : Tryz.prog.cellsOf 3 = 1 := by kernel_rfl
  have c4 : Tryz.prog.cellsOf 24 = 1 := by kernel_rfl
  unfold keyOf
  simp only [Tryz.underlying110, h1, h2, hd, Bool.and_self, if_true]
  have hk : Tryz.prog.keyLits (d + 2 + 1) tE (qV (m, o, n)).cells.toList = some [.int .i64 m, .int .i64 o, .int .u64 n] := by
    have wm : (Lit.int .i64 m).wf = true := hm
    have wo : (Lit.int .i64 o).wf = true := ho
    have wn := w64u hn
    simp [Program.keyLits, Tryz.underlying110, Tryz.underlying3, Tryz.underlying24, c1, c3, c4, Value.cells, wm, wo, wn]
  rw [hk]
  exact ⟨_, rfl⟩
def ktE : MapS.KT Tryz.prog tE Qn := ⟨qV, qOk, Maps.Keyed.of_law eLaw, e_key, fun x y h => by
  obtain ⟨a, b, c⟩ := x
  obtain ⟨a', b', c'⟩ := y
  simp [qV] at h
  obtain ⟨h1, h2, h3⟩ := h
  rw [h1, h2, show c = c' by omega]⟩
abbrev zV (x : Int) : Value := .int .i64 x
theorem zeroZ (w : World) : (zeroValue 3).run Tryz.prog w = .ok (zV 0) w := by kernel_rfl

def outA (m : Int) (acc : List (Qn × Int)) (x : T3) : List (Qn × Int) := if (MapS.get (m, x.1, x.2.1) acc).isSome then acc else acc ++ [((m, x.1, x.2.1), x.2.2)]
def outsA (acc : List (Qn × Int)) (a : Ans) : List (Qn × Int) := a.ins.foldl (outA a.m) acc
def outsOf (Y : List Ans) : List (Qn × Int) := Y.foldl outsA []
def luOf (t : Tr) (q : Qn) : Int := ((MapS.get q t.rec').map Ans.lu).getD 0
def updL (P : List PCl) (j : Nat) (f : List T3 → List T3) : List PCl := match P[P.length - 1]? with
  | some c => P.set (P.length - 1) (c.upd j (f (c.at j)))
  | none => P
def openC (P : List PCl) (a : Ans) : List PCl := match P[P.length - 1]? with
  | some c => if c.m = a.m then P else P ++ [⟨a.m, a.ep, [], [], []⟩]
  | none => P ++ [⟨a.m, a.ep, [], [], []⟩]
def newC (P : List PCl) (a : Ans) : Bool := match P[P.length - 1]? with
  | some c => decide (c.m ≠ a.m)
  | none => true
def needC (O : List (Qn × Int)) (P : List PCl) (a : Ans) : List PCl := match MapS.get (a.ow, a.m, a.n) O with
  | some o => updL P 0 (fun l => l ++ [(a.ow, a.n, o)])
  | none => updL P 2 (fun l => l ++ [(a.ow, a.n, 0)])
def addN (n : T3) (l : List T3) : List T3 := if n ∈ l then l else l ++ [n]
def scC (t : Tr) (m : Int) (P : List PCl) (x : T3) : List PCl := updL P 1 (addN (x.1, x.2.1, luOf t (x.1, m, x.2.1)))
def rawC (t : Tr) (O : List (Qn × Int)) (P : List PCl) (a : Ans) : List PCl := a.ins.foldl (scC t a.m) (needC O (openC P a) a)
def rawOf (t : Tr) (O : List (Qn × Int)) (Y : List Ans) : List PCl := Y.foldl (rawC t O) []

theorem outA_len (m : Int) (acc : List (Qn × Int)) (x : T3) : (outA m acc x).length ≤ acc.length + 1 := by unfold outA; split <;> simp
theorem out_fold_len (m : Int) : ∀ (l : List T3) (acc : List (Qn × Int)), (l.foldl (outA m) acc).length ≤ acc.length + l.length
  | [], _ => by simp
  | x :: r, acc => by
    rw [List.foldl_cons]
    have := out_fold_len m r (outA m acc x)
    have := outA_len m acc x
    simp; omega
theorem foldl_succ {α β : Type} (f : β → α → β) (b : β) (l : List α) (k : Nat) (hk : k < l.length) : (l.take (k + 1)).foldl f b = f ((l.take k).foldl f b) l[k] := by
  rw [List.take_succ_eq_append_getElem hk, List.foldl_append]; rfl
theorem foldl_all {α β : Type} (f : β → α → β) (b : β) (l : List α) : (l.take l.length).foldl f b = l.foldl f b := by rw [List.take_length]
theorem updL_len (P : List PCl) (j : Nat) (f : List T3 → List T3) : (updL P j f).length = P.length := by unfold updL; split <;> simp
theorem updL_at {P : List PCl} {n : Nat} (hn : P.length = n + 1) (j : Nat) (f : List T3 → List T3) : updL P j f = P.set n ((P[n]'(by omega)).upd j (f ((P[n]'(by omega)).at j))) := by
  unfold updL
  rw [show P.length - 1 = n by omega, List.getElem?_eq_getElem (by omega)]
theorem openC_pos (P : List PCl) (a : Ans) : ∃ n, (openC P a).length = n + 1 ∧ n ≤ P.length := by
  unfold openC
  split
  · rename_i c h
    have := (List.getElem?_eq_some_iff.1 h).1
    split
    · exact ⟨P.length - 1, by omega, by omega⟩
    · exact ⟨P.length, by simp, by omega⟩
  · exact ⟨P.length, by simp, by omega⟩
theorem openC_new {P : List PCl} {a : Ans} (h : newC P a = true) : openC P a = P ++ [⟨a.m, a.ep, [], [], []⟩] := by
  unfold newC at h
  unfold openC
  split
  · rename_i c e
    rw [e] at h
    rw [if_neg (of_decide_eq_true h)]
  · rfl
theorem openC_old {P : List PCl} {a : Ans} (h : newC P a = false) : openC P a = P := by
  unfold newC at h
  unfold openC
  split
  · rename_i c e
    rw [e] at h
    rw [if_pos (Decidable.not_not.1 (of_decide_eq_false h))]
  · rename_i e
    rw [e] at h; cases h
theorem newC_at {P : List PCl} {n : Nat} (hn : P.length = n + 1) (a : Ans) : newC P a = ((P[n]'(by omega)).m != a.m) := by
  unfold newC
  rw [show P.length - 1 = n by omega, List.getElem?_eq_getElem (by omega)]
  simp only [ne_eq, decide_not]; rfl
theorem newC_nil {P : List PCl} (hn : P.length = 0) (a : Ans) : newC P a = true := by
  unfold newC
  rw [List.getElem?_eq_none (by omega)]
theorem needC_len (O : List (Qn × Int)) (P : List PCl) (a : Ans) : (needC O P a).length = P.length := by unfold needC; split <;> exact updL_len _ _ _
theorem scC_len (t : Tr) (m : Int) (P : List PCl) (x : T3) : (scC t m P x).length = P.length := updL_len _ _ _
theorem sc_fold_len (t : Tr) (m : Int) : ∀ (l : List T3) (P : List PCl), (l.foldl (scC t m) P).length = P.length
  | [], _ => rfl
  | x :: r, P => by rw [List.foldl_cons, sc_fold_len t m r, scC_len]
theorem upd_same (x : PCl) (j : Nat) (hj : j < 3) : x.upd j (x.at j) = x := by
  match j, hj with
  | 0, _ => rfl
  | 1, _ => rfl
  | 2, _ => rfl
/-- No list is longer than this. -/
def LenLe (P : List PCl) (N : Nat) : Prop := ∀ (k : Nat) (hk : k < P.length) (j : Nat), j < 3 → (P[k].at j).length ≤ N
theorem LenLe.mono {P : List PCl} {N M : Nat} (h : LenLe P N) (hM : N ≤ M) : LenLe P M := fun k hk j hj => Nat.le_trans (h k hk j hj) hM
theorem LenLe.updL {P : List PCl} {N : Nat} (h : LenLe P N) (j : Nat) (hj : j < 3) (f : List T3 → List T3) (hf : ∀ l, (f l).length ≤ l.length + 1) : LenLe (updL P j f) (N + 1) := by
  intro k hk j' hj'
  have hk2 : k < P.length := by rw [updL_len] at hk; exact hk
  obtain ⟨n, hn⟩ : ∃ n, P.length = n + 1 := ⟨P.length - 1, by omega⟩
  have e := updL_at hn j f
  simp only [e, List.getElem_set]
  split
  · rename_i e2
    subst e2
    rw [CL.at_upd _ _ _ _ hj hj']
    split
    · have := hf (P[n].at j); have := h n (by omega) j hj; omega
    · have := h n (by omega) j' hj'; omega
  · have := h k hk2 j' hj'; omega
theorem LenLe.openC {P : List PCl} {N : Nat} (h : LenLe P N) (a : Ans) : LenLe (openC P a) N := by
  have hp : LenLe (P ++ [⟨a.m, a.ep, [], [], []⟩]) N := fun k hk j hj => by
    by_cases e : k < P.length
    · rw [List.getElem_append_left e]; exact h k e j hj
    · have : k = P.length := by simp at hk; omega
      subst this
      simp only [List.getElem_concat_length]
      unfold PCl.at; split <;> simp
  unfold Go.Proofs.YthfdngjbcgkkfaaGreat.openC
  split
  · split
    · exact h
    · exact hp
  · exact hp
theorem LenLe.needC {P : List PCl} {N : Nat} (h : LenLe P N) (O : List (Qn × Int)) (a : Ans) : LenLe (needC O P a) (N + 1) := by
  unfold Go.Proofs.YthfdngjbcgkkfaaGreat.needC
  split
  · exact h.updL 0 (by omega) _ (fun l => by simp)
  · exact h.updL 2 (by omega) _ (fun l => by simp)
theorem addN_len (n : T3) (l : List T3) : (addN n l).length ≤ l.length + 1 := by unfold addN; split <;> simp
theorem LenLe.scs (t : Tr) (m : Int) : ∀ {l : List T3} {P : List PCl} {N : Nat}, LenLe P N → LenLe (l.foldl (scC t m) P) (N + l.length)
  | [], _, _, h => h
  | x :: r, P, N, h => by
    rw [List.foldl_cons]
    have h1 : LenLe (scC t m P x) (N + 1) := h.updL 1 (by omega) _ (addN_len _)
    have := LenLe.scs t m (l := r) h1
    exact this.mono (by simp; omega)
theorem LenLe.rawC {P : List PCl} {N : Nat} (h : LenLe P N) (t : Tr) (O : List (Qn × Int)) (a : Ans) (ha : a.ins.length ≤ 100000) : LenLe (rawC t O P a) (N + 100001) :=
  (LenLe.scs t a.m ((h.openC a).needC O a)).mono (by omega)
theorem rawC_len (t : Tr) (O : List (Qn × Int)) (P : List PCl) (a : Ans) : (rawC t O P a).length ≤ P.length + 1 := by
  unfold rawC
  rw [sc_fold_len, needC_len]
  obtain ⟨n, h1, h2⟩ := openC_pos P a
  omega
theorem rawOf_take (t : Tr) (O : List (Qn × Int)) (Y : List Ans) (hY : ∀ a ∈ Y, a.ins.length ≤ 100000) : ∀ k, k ≤ Y.length → LenLe (rawOf t O (Y.take k)) (k * 100001) ∧ (rawOf t O (Y.take k)).length ≤ k
  | 0, _ => ⟨fun k hk => by simp [rawOf] at hk, by simp [rawOf]⟩
  | k + 1, h => by
    obtain ⟨h1, h2⟩ := rawOf_take t O Y hY k (by omega)
    have hk : k < Y.length := by omega
    have e : rawOf t O (Y.take (k + 1)) = rawC t O (rawOf t O (Y.take k)) Y[k] := foldl_succ _ _ _ _ hk
    rw [e]
    refine ⟨(h1.rawC t O Y[k] (hY _ (List.getElem_mem hk))).mono (by omega), ?_⟩
    have := rawC_len t O (rawOf t O (Y.take k)) Y[k]
    omega
end Go.Proofs.YthfdngjbcgkkfaaGreat

namespace Go.Proofs.YthfdngjbcgkkfaaGreat
open Go.RowKit
theorem lt_of_blk' {w : World} {b : Nat} {o : Obj} (h : w.heap[b]? = some o) : b < w.heap.size := (Array.getElem?_eq_some_iff.1 h).1
theorem Sh.O.form1 {α : Type} {s : Sh α} {w : World} {B e : Nat} {v : Value} {L : List α} (h : s.O w B e v L) (hL : 0 < L.length) : ∃ g c, v = .slice (some ⟨g, 0, none⟩) L.length c ∧ B ≤ g ∧ ∃ cs, w.heap[g]? = some (Obj.cells cs e (0, 0)) := by
  rcases h.2 with ⟨rfl, h2⟩ | ⟨g, cap, cur, rfl, hb, hg, _⟩
  · exfalso
    have h3 := Sh.cs_len (s := s) L
    have hp := s.pos
    have : 1 * 1 ≤ L.length * s.sz := Nat.mul_le_mul hL hp
    rw [h2] at h3; simp at h3; omega
  · exact ⟨g, cap, rfl, hb, _, hg⟩
theorem CL.row {w : World} {B : Nat} {vc : Value} {P : List PCl} {V : Nat → Nat → SlT} (h : CL w B vc P V) {k : Nat} (hk : k < P.length) :
    ∃ g c, vc = .slice (some ⟨g, 0, none⟩) P.length c ∧ B ≤ g ∧ g < w.heap.size ∧ w.cell? ⟨g, k * 5, none⟩ = some (.int .i64 P[k].m) ∧ w.cell? ⟨g, k * 5 + 1, none⟩ = some (.int .i64 P[k].ep) ∧
      w.cell? ⟨g, k * 5 + 2, none⟩ = some (slv (V k 0)) ∧ w.cell? ⟨g, k * 5 + 3, none⟩ = some (slv (V k 1)) ∧ w.cell? ⟨g, k * 5 + 4, none⟩ = some (slv (V k 2)) ∧ (∀ o, w.frozen? ⟨g, o, none⟩ = false) := by
  have hkr : k < (rowsC P V).length := by rw [rowsC_len]; exact hk
  obtain ⟨g, c, rfl, hb, cs, hg⟩ := h.c.form1 (by omega)
  obtain ⟨g', o', c', e, he⟩ := h.c.r.elem hkr
  cases e
  rw [rowsC_get P V k hk] at he
  refine ⟨g, c, by rw [rowsC_len], hb, lt_of_blk hg, ?_, ?_, ?_, ?_, ?_, fun o => by simp [World.frozen?, hg]⟩
  · simpa [shC] using he 0 _ rfl
  · simpa [shC] using he 1 _ rfl
  · simpa [shC] using he 2 _ rfl
  · simpa [shC] using he 3 _ rfl
  · simpa [shC] using he 4 _ rfl
/-- What the gathering of claims leaves. -/
def KO (w w' : World) : Prop := w.heap.size ≤ w'.heap.size ∧ ∀ (b : Nat) (cs : Array Value) (e : TypeId) (f : Nat × Nat), w.heap[b]? = some (Obj.cells cs e f) → e ≠ tC → e ≠ tN → w'.heap[b]? = w.heap[b]?
theorem KO.trans {a b c : World} (h : KO a b) (g : KO b c) : KO a c := ⟨Nat.le_trans h.1 g.1, fun x cs e f h1 h2 h3 => by
  have e1 := h.2 x cs e f h1 h2 h3
  exact (g.2 x cs e f (e1.trans h1) h2 h3).trans e1⟩
theorem KO.of {S : List Nat} {w w' : World} (hk : Keeps S w w') (hS : ∀ b ∈ S, ∃ (cs : Array Value) (e : TypeId) (f : Nat × Nat), w.heap[b]? = some (Obj.cells cs e f) ∧ (e = tC ∨ e = tN)) : KO w w' := ⟨hk.size, fun b cs e f h1 h2 h3 => hk.block b (lt_of_blk' h1) (fun hb => by
  obtain ⟨cs', e', f', g1, g2⟩ := hS b hb
  rw [g1] at h1; cases h1
  rcases g2 with g2 | g2
  · exact h2 g2
  · exact h3 g2)⟩
theorem KO.nil {w w' : World} (hk : Keeps [] w w') : KO w w' := KO.of hk (by simp)
theorem KO.ki {w w' : World} (h : KO w w') : KI w w' := fun b cs f hb => (h.2 b cs _ f hb (by decide) (by decide)).trans hb
theorem KO.grwC {w w' : World} {B : Nat} {v v' : Value} {L : List ClV} (hG : Grw w w' v v') (hO : shC.O w B tC v L) : KO w w' := KO.of hG.keepsO (fun b hb => by
  obtain ⟨cs, hc⟩ := hO.tag b (by simpa using hb)
  exact ⟨cs, _, _, hc, .inl rfl⟩)
theorem KO.grwN {w w' : World} {B : Nat} {v v' : Value} {L : List T3} (hG : Grw w w' v v') (hO : shT.O w B tN v L) : KO w w' := KO.of hG.keepsO (fun b hb => by
  obtain ⟨cs, hc⟩ := hO.tag b (by simpa using hb)
  exact ⟨cs, _, _, hc, .inr rfl⟩)
theorem field_lu (w : World) (v0 v1 : Int) (v2 : Nat) (v3 : Int) (v4 v5 : Bool) (v6 : Int) (u : Value) (hu : u.cells.size = 1) : (Instr.field tA (.agg #[.int .i64 v0, .int .i64 v1, .int .u64 v2, .int .i64 v3, .bool v4, .bool v5, .int .i64 v6, u]) 6).run Tryz.prog w = .ok (.int .i64 v6) w := by
  kernel_rfl
theorem LR.lu {w : World} {R : List (Qn × AnV)} {t : Tr} (h : LR w R t.rec') (q : Qn) : ∃ xv : AnV, ((MapS.get q R).map aV).getD (aV .zero) = aV xv ∧ xv.lu = luOf t q := by
  unfold luOf
  rcases h.2 q with ⟨h1, h2⟩ | ⟨x, y, h1, h2, h3⟩
  · rw [h1, h2]; exact ⟨.zero, rfl, rfl⟩
  · rw [h1, h2]; exact ⟨x, rfl, h3.lu⟩
/-- The lists before this one are sorted. -/
def Srt (k j : Nat) (P Q : List PCl) : Prop := Q.length = P.length ∧ ∀ (i : Nat) (h1 : i < Q.length) (h2 : i < P.length), Q[i].m = P[i].m ∧ Q[i].ep = P[i].ep ∧
  ∀ l, l < 3 → (Q[i].at l).Perm (P[i].at l) ∧ (i < k ∨ (i = k ∧ l < j) → (Q[i].at l).Pairwise (fun x y => ¬ tlt y x))
theorem Srt.start (P : List PCl) : Srt 0 0 P P := ⟨rfl, fun i h1 h2 => ⟨rfl, rfl, fun l hl => ⟨List.Perm.refl _, fun h => by omega⟩⟩⟩
theorem Srt.next {k : Nat} {P Q : List PCl} (h : Srt k 3 P Q) : Srt (k + 1) 0 P Q := ⟨h.1, fun i h1 h2 => ⟨(h.2 i h1 h2).1, (h.2 i h1 h2).2.1, fun l hl => ⟨((h.2 i h1 h2).2.2 l hl).1, fun hh => ((h.2 i h1 h2).2.2 l hl).2 (by omega)⟩⟩⟩
theorem Srt.step {k j : Nat} {P Q : List PCl} (h : Srt k j P Q) (hk : k < Q.length) (hj : j < 3) {L : List T3} (hp : L.Perm (Q[k].at j)) (hw : L.Pairwise (fun x y => ¬ tlt y x)) : Srt k (j + 1) P (Q.set k (Q[k].upd j L)) := by
  refine ⟨by rw [List.length_set]; exact h.1, fun i h1 h2 => ?_⟩
  have h3 : i < Q.length := by simpa using h1
  obtain ⟨g1, g2, g3⟩ := h.2 i h3 h2
  rw [List.getElem_set]
  by_cases e : k = i
  · subst e
    simp only [if_true]
    refine ⟨(CL.upd_m _ _ _).1.trans g1, (CL.upd_m _ _ _).2.trans g2, fun l hl => ?_⟩
    rw [CL.at_upd _ _ _ _ hj hl]
    by_cases el : l = j
    · subst el
      rw [if_pos rfl]
      exact ⟨hp.trans (g3 l hl).1, fun _ => hw⟩
    · rw [if_neg el]
      exact ⟨(g3 l hl).1, fun hh => (g3 l hl).2 (by omega)⟩
  · simp only [if_neg e]
    exact ⟨g1, g2, fun l hl => ⟨(g3 l hl).1, fun hh => (g3 l hl).2 (by omega)⟩⟩
theorem cells3s {w : World} {b : Nat} {u : Nat → Value} {t : TypeId} {f : Nat × Nat} (h : w.heap[b]? = some (.cells #[u 0, u 1, u 2] t f)) {j : Nat} (hj : j < 3) : w.cell? ⟨b, j, none⟩ = some (u j) := by
  match j, hj with
  | 0, _ => simp [World.cell?, h]
  | 1, _ => simp [World.cell?, h]
  | 2, _ => simp [World.cell?, h]
end Go.Proofs.YthfdngjbcgkkfaaGreat
