/- Texts that the laws lean on, in the order in which they build. A trace in memory. Answering a trace: the plain function and its laws. New, ID, Start, State, Agreed; a copy of an answer. Whether a list of answers holds one of a machine with another epoch. What writing a trace's blocks leaves. Trace.Answer. Trace.Queries. An iteration over a map with keys of any kind: what keeps it. Trace.answers: the recorded answers in their order. Claims in memory, as they are gathered. What the claims are gathered from: the plain functions. A row of the claims; what the recorded map says of the last use. Trace.claims. The claims that follow from sorted answers, machine by machine; they are the only ones. The specification's sorted answers and claims: plain. -/
import Derived.Test.YtiplgpefapeapaaKC2
import Derived.Laws.Rows
import Derived.Deep.CutRange
set_option linter.unusedVariables false
set_option linter.unusedSimpArgs false
namespace Go.Proofs.Ytiplgpefapeapaa
open Go.RowKit

/-- An answer. -/
structure Ans where
  m : Int
  ow : Int
  n : Nat
  ep : Int
  kn : Bool
  rt : Bool
  lu : Int
  ins : List T3
  deriving DecidableEq
def Ans.q (x : Ans) : Qn := (x.m, x.ow, x.n)
def Ans.zero : Ans := ⟨0, 0, 0, 0, false, false, 0, []⟩
/-- The cells of an answer say this answer. -/
structure InA (w : World) (x : AnV) (y : Ans) : Prop where
  m : x.m = y.m
  ow : x.ow = y.ow
  n : x.n = y.n
  ep : x.ep = y.ep
  kn : x.kn = y.kn
  rt : x.rt = y.rt
  lu : x.lu = y.lu
  ins : InsO w x.v y.ins
theorem InA.ki {w w' : World} {x : AnV} {y : Ans} (h : InA w x y) (hk : KI w w') : InA w' x y := ⟨h.m, h.ow, h.n, h.ep, h.kn, h.rt, h.lu, h.ins.ki hk⟩
theorem InA.q {w : World} {x : AnV} {y : Ans} (h : InA w x y) : x.q = y.q := by unfold AnV.q Ans.q; rw [h.m, h.ow, h.n]
/-- The same of a list. -/
def LA (w : World) (X : List AnV) (Y : List Ans) : Prop := X.length = Y.length ∧ ∀ (k : Nat) (x : AnV) (y : Ans), X[k]? = some x → Y[k]? = some y → InA w x y
theorem LA.nil (w : World) : LA w [] [] := ⟨rfl, fun k x y h => by simp at h⟩
theorem LA.ki {w w' : World} {X : List AnV} {Y : List Ans} (h : LA w X Y) (hk : KI w w') : LA w' X Y := ⟨h.1, fun k x y h1 h2 => (h.2 k x y h1 h2).ki hk⟩
theorem LA.snoc {w : World} {X : List AnV} {Y : List Ans} {x : AnV} {y : Ans} (h : LA w X Y) (hx : InA w x y) : LA w (X ++ [x]) (Y ++ [y]) := by
  obtain ⟨h1, h2⟩ := h
  refine ⟨by simp [h1], fun k a b ha hb => ?_⟩
  rcases Nat.lt_trichotomy k X.length with hk | hk | hk
  · rw [List.getElem?_append_left hk] at ha
    rw [List.getElem?_append_left (by omega)] at hb
    exact h2 k a b ha hb
  · rw [List.getElem?_append_right (by omega)] at ha
    rw [List.getElem?_append_right (by omega)] at hb
    rw [show k - X.length = 0 by omega] at ha
    rw [show k - Y.length = 0 by omega] at hb
    simp at ha hb
    subst ha hb
    exact hx
  · rw [List.getElem?_append_right (by omega), List.getElem?_eq_none (by simp; omega)] at ha
    cases ha
theorem LA.get {w : World} {X : List AnV} {Y : List Ans} (h : LA w X Y) {k : Nat} (hk : k < Y.length) : ∃ hx : k < X.length, InA w X[k] Y[k] :=
  ⟨by rw [h.1]; exact hk, h.2 k _ _ (List.getElem?_eq_getElem _) (List.getElem?_eq_getElem _)⟩
/-- A trace. -/
structure Tr where
  im : Int
  is : Int
  st : T3
  qs : List (Qn × Option Ans)
  told : Int
  hist : List Ans
  state : Int
  ag : List Int
  rf : Bool
def Tr.op (t : Tr) : List Qn := t.qs.map (·.1)
def recOf (qs : List (Qn × Option Ans)) : List (Qn × Ans) := qs.filterMap (fun p => p.2.map (fun a => (p.1, a)))
def Tr.rec' (t : Tr) : List (Qn × Ans) := recOf t.qs
/-- The entries of the map of the answers. -/
def LR (w : World) (R : List (Qn × AnV)) (Y : List (Qn × Ans)) : Prop :=
  R.length = Y.length ∧ ∀ q, (MapS.get q R = none ∧ MapS.get q Y = none) ∨ ∃ x y, MapS.get q R = some x ∧ MapS.get q Y = some y ∧ InA w x y
theorem LR.ki {w w' : World} {R : List (Qn × AnV)} {Y : List (Qn × Ans)} (h : LR w R Y) (hk : KI w w') : LR w' R Y :=
  ⟨h.1, fun q => (h.2 q).imp id (fun ⟨x, y, h1, h2, h3⟩ => ⟨x, y, h1, h2, h3.ki hk⟩)⟩
/-- Numbers that fit. -/
structure Ans.Ok (a : Ans) : Prop where
  q : qOk a.q
  ep : W64 a.ep
  lu : W64 a.lu
  ins : ∀ x ∈ a.ins, W64 x.1 ∧ x.2.1 < 18446744073709551616 ∧ W64 x.2.2
  len : a.ins.length ≤ 100000
structure Tr.Inv (t : Tr) : Prop where
  ok : ∀ q ∈ t.op, qOk q
  nd : t.op.Nodup
  rq : ∀ p ∈ t.rec', p.2.q = p.1
  rk : ∀ p ∈ t.rec', p.2.kn = true
  hi : ∀ a ∈ t.hist, a.Ok
  ro : ∀ p ∈ t.rec', p.2.Ok
/-- The blocks that a trace writes. -/
def ownT (bt bm : Nat) (vo vh vg : Value) : List Nat := bt :: bm :: (vo.ownBlock.toList ++ vh.ownBlock.toList ++ vg.ownBlock.toList)
theorem Sh.O.tag {α : Type} {s : Sh α} {w : World} {B e : Nat} {v : Value} {L : List α} (h : s.O w B e v L) : ∀ b, v.ownBlock = some b → ∃ (cs : Array Value), w.heap[b]? = some (Obj.cells cs e (0, 0)) := fun b hb => by
  rcases h.2 with ⟨rfl, _⟩ | ⟨g, cap, cur, rfl, _, hg, _⟩
  · simp [Value.ownBlock] at hb
  · simp [Value.ownBlock] at hb; subst hb; exact ⟨_, hg⟩
/-- Blocks of different types are different. -/
theorem tag_ne {w : World} {b b' : Nat} {cs cs' : Array Value} {t t' : TypeId} {f f' : Nat × Nat} (h : w.heap[b]? = some (.cells cs t f)) (h' : w.heap[b']? = some (.cells cs' t' f')) (hne : t ≠ t') : b ≠ b' := fun e => by
  subst e; rw [h] at h'; cases h'; exact hne rfl
theorem mem_ownT {bt bm : Nat} {vo vh vg : Value} {b : Nat} : b ∈ ownT bt bm vo vh vg ↔ b = bt ∨ b = bm ∨ vo.ownBlock = some b ∨ vh.ownBlock = some b ∨ vg.ownBlock = some b := by
  simp [ownT, or_assoc]
theorem MapS.M.isMap {P : Program} {kt : TypeId} {κ : Type} [DecidableEq κ] {α : Type} {K : MapS.KT P kt κ} {vf : α → Value} {w : World} {b : Nat} {L : List (κ × α)} (h : MapS.M K vf w b L) : ∃ es c, w.heap[b]? = some (Obj.map es c) := by
  obtain ⟨⟨D, ⟨es, c, hb, _⟩, _⟩, _⟩ := h
  exact ⟨es, c, hb⟩
namespace TrM
variable {w w' : World} {B bt bm : Nat} {vo vh vg : Value} {t : Tr}
end TrM
end Go.Proofs.Ytiplgpefapeapaa

namespace Go.Proofs.Ytiplgpefapeapaa
open Go.RowKit
abbrev Qs := List (Qn × Option Ans)

def setQ (q : Qn) (a : Ans) (qs : Qs) : Qs := qs.map (fun p => if p.1 = q then (q, some a) else p)
def openQ (m : Int) (qs : Qs) (x : T3) : Qs := if (x.1, m, x.2.1) ∈ qs.map (·.1) then qs else qs ++ [((x.1, m, x.2.1), none)]
def Ans.odd (m ep : Int) (x : Ans) : Bool := x.m == m && x.ep != ep
def allQ (qs : Qs) : Bool := qs.all (fun p => p.2.isSome)
/-- A question is open. -/
def isOpen (q : Qn) (qs : Qs) : Bool := decide ((q, none) ∈ qs)
instance : DecidableEq (Qn × Option Ans) := inferInstance
def Tr.close (t : Tr) : Tr := if allQ t.qs then { t with state := 1 } else t
def Tr.take (t : Tr) (a : Ans) : Tr := { t with hist := t.hist ++ [a] }
def Tr.put (t : Tr) (a : Ans) : Tr := { t with qs := a.ins.foldl (openQ a.m) (setQ a.q a t.qs) }
def Tr.answer (t : Tr) (a : Ans) : Tr × Int :=
  if t.state ≠ 0 then (t, 9) else if isOpen a.q t.qs = false then (t, 6) else
  if a.kn = false then ({ t.take a with state := 4 }, 0) else if a.rt = true then ({ t.take a with state := 3 }, 0) else
  if (t.hist ++ [a]).any (Ans.odd a.m a.ep) then ({ t.take a with state := 4 }, 0) else (((t.take a).put a).close, 0)
theorem setQ_keys (q : Qn) (a : Ans) : ∀ qs : Qs, (setQ q a qs).map (·.1) = qs.map (·.1)
  | [] => rfl
  | (x, u) :: r => by
    have ih := setQ_keys q a r
    unfold setQ at ih ⊢
    simp only [List.map_cons]
    rw [ih]
    split
    · rename_i e; rw [e]
    · rfl
theorem recOf_keys {qs : Qs} {q : Qn} {a : Ans} : (q, a) ∈ recOf qs ↔ (q, some a) ∈ qs := by
  unfold recOf
  rw [List.mem_filterMap]
  constructor
  · rintro ⟨⟨x, o⟩, h1, h2⟩
    cases o with
    | none => cases h2
    | some b => simp at h2; obtain ⟨rfl, rfl⟩ := h2; exact h1
  · intro h
    exact ⟨_, h, rfl⟩
theorem recOf_sub : ∀ qs : Qs, ((recOf qs).map (·.1)).Sublist (qs.map (·.1))
  | [] => List.Sublist.slnil
  | (x, none) :: r => by
    have ih := recOf_sub r
    unfold recOf at ih ⊢
    exact List.Sublist.cons _ ih
  | (x, some a) :: r => by
    have ih := recOf_sub r
    unfold recOf at ih ⊢
    exact List.Sublist.cons_cons _ ih
theorem recOf_nd {qs : Qs} (h : (qs.map (·.1)).Nodup) : MapS.ND (recOf qs) := h.sublist (recOf_sub qs)
theorem nd_val {qs : Qs} (h : (qs.map (·.1)).Nodup) {q : Qn} {u v : Option Ans} (h1 : (q, u) ∈ qs) (h2 : (q, v) ∈ qs) : u = v := by
  have e1 := MapS.get_of_mem (L := qs) h h1
  have e2 := MapS.get_of_mem (L := qs) h h2
  rw [e1] at e2; cases e2; rfl
theorem rec_len : ∀ qs : Qs, (recOf qs).length ≤ qs.length ∧ ((recOf qs).length = qs.length ↔ allQ qs = true)
  | [] => ⟨Nat.le_refl _, by simp [recOf, allQ]⟩
  | (x, none) :: r => by
    obtain ⟨h1, h2⟩ := rec_len r
    have e : recOf ((x, none) :: r) = recOf r := rfl
    rw [e]
    refine ⟨by simp; omega, ?_⟩
    simp [allQ]; omega
  | (x, some a) :: r => by
    obtain ⟨h1, h2⟩ := rec_len r
    have e : recOf ((x, some a) :: r) = (x, a) :: recOf r := rfl
    rw [e]
    refine ⟨by simp; omega, ?_⟩
    have e2 : allQ ((x, some a) :: r) = allQ r := by simp [allQ]
    rw [e2, ← h2]; simp
theorem setQ_same {q : Qn} {a : Ans} : ∀ {qs : Qs}, q ∉ qs.map (·.1) → setQ q a qs = qs
  | [], _ => rfl
  | (x, u) :: r, h => by
    have ih := setQ_same (q := q) (a := a) (qs := r) (fun hm => h (List.mem_cons_of_mem _ hm))
    unfold setQ at ih ⊢
    rw [List.map_cons, ih, if_neg (fun e => h (by have e2 : x = q := e; rw [← e2]; simp))]
theorem setQ_cons (q x : Qn) (a : Ans) (u : Option Ans) (r : Qs) : setQ q a ((x, u) :: r) = (if x = q then (q, some a) else (x, u)) :: setQ q a r := rfl
theorem recOf_some (x : Qn) (a : Ans) (r : Qs) : recOf ((x, some a) :: r) = (x, a) :: recOf r := rfl
theorem recOf_none (x : Qn) (r : Qs) : recOf ((x, none) :: r) = recOf r := rfl
theorem setQ_len {q : Qn} {a : Ans} : ∀ {qs : Qs}, (qs.map (·.1)).Nodup → (q, none) ∈ qs → (recOf (setQ q a qs)).length = (recOf qs).length + 1
  | [], _, h => by simp at h
  | (x, u) :: r, hn, h => by
    obtain ⟨h1, h2⟩ := List.nodup_cons.1 hn
    rw [setQ_cons]
    rcases List.mem_cons.1 h with e | hm
    · cases e
      rw [if_pos rfl, setQ_same h1, recOf_some, recOf_none]; rfl
    · have hx : x ≠ q := fun e => h1 (List.mem_map.2 ⟨(q, none), hm, e.symm⟩)
      have ih := setQ_len (a := a) h2 hm
      rw [if_neg hx]
      cases u with
      | none => rw [recOf_none, recOf_none]; exact ih
      | some b => rw [recOf_some, recOf_some, List.length_cons, List.length_cons, ih]
theorem setQ_mem {q : Qn} {a : Ans} {qs : Qs} (hq : q ∈ qs.map (·.1)) (k : Qn) (u : Option Ans) : (k, u) ∈ setQ q a qs ↔ (k = q ∧ u = some a) ∨ (k ≠ q ∧ (k, u) ∈ qs) := by
  unfold setQ
  rw [List.mem_map]
  constructor
  · rintro ⟨⟨x, v⟩, h1, h2⟩
    simp only at h2
    split at h2
    · cases h2; exact .inl ⟨rfl, rfl⟩
    · cases h2; rename_i hne; exact .inr ⟨hne, h1⟩
  · rintro (⟨rfl, rfl⟩ | ⟨h1, h2⟩)
    · obtain ⟨⟨x, v⟩, h3, h4⟩ := List.mem_map.1 hq
      simp only at h4
      subst h4
      exact ⟨(x, v), h3, by simp⟩
    · exact ⟨(k, u), h2, by simp [h1]⟩
theorem get_rec {qs : Qs} (h : (qs.map (·.1)).Nodup) (k : Qn) (a : Ans) : MapS.get k (recOf qs) = some a ↔ (k, some a) ∈ qs := by
  rw [MapS.get_iff (recOf_nd h), recOf_keys]
theorem get_setQ {q : Qn} {a : Ans} {qs : Qs} (h : (qs.map (·.1)).Nodup) (hq : q ∈ qs.map (·.1)) (k : Qn) : MapS.get k (recOf (setQ q a qs)) = if k = q then some a else MapS.get k (recOf qs) := by
  have h' : ((setQ q a qs).map (·.1)).Nodup := by rw [setQ_keys]; exact h
  refine Option.ext fun b => ?_
  rw [get_rec h', setQ_mem hq]
  by_cases e : k = q
  · subst e
    simp [eq_comm]
  · rw [if_neg e, get_rec h]
    simp [e]
theorem openQ_rec (m : Int) (qs : Qs) (x : T3) : recOf (openQ m qs x) = recOf qs := by
  unfold openQ
  split
  · rfl
  · unfold recOf; simp
theorem openQ_nd {m : Int} {qs : Qs} {x : T3} (h : (qs.map (·.1)).Nodup) : ((openQ m qs x).map (·.1)).Nodup := by
  unfold openQ
  split
  · exact h
  · rename_i hn
    rw [List.map_append, List.nodup_append]
    exact ⟨h, by simp, fun a ha b hb e => by simp at hb; subst hb; subst e; exact hn ha⟩
theorem openQ_keys (m : Int) (qs : Qs) (x : T3) : (openQ m qs x).map (·.1) = if (x.1, m, x.2.1) ∈ qs.map (·.1) then qs.map (·.1) else qs.map (·.1) ++ [(x.1, m, x.2.1)] := by
  unfold openQ
  split <;> simp
theorem openQ_len (m : Int) (qs : Qs) (x : T3) : (openQ m qs x).length ≤ qs.length + 1 := by unfold openQ; split <;> simp
theorem fold_rec (m : Int) : ∀ (l : List T3) (qs : Qs), recOf (l.foldl (openQ m) qs) = recOf qs
  | [], _ => rfl
  | x :: t, qs => by rw [List.foldl_cons, fold_rec m t, openQ_rec]
theorem fold_nd (m : Int) : ∀ (l : List T3) (qs : Qs), (qs.map (·.1)).Nodup → ((l.foldl (openQ m) qs).map (·.1)).Nodup
  | [], _, h => h
  | x :: t, qs, h => by rw [List.foldl_cons]; exact fold_nd m t _ (openQ_nd h)
theorem fold_len (m : Int) : ∀ (l : List T3) (qs : Qs), (l.foldl (openQ m) qs).length ≤ qs.length + l.length
  | [], _ => by simp
  | x :: t, qs => by
    rw [List.foldl_cons]
    have := fold_len m t (openQ m qs x)
    have := openQ_len m qs x
    simp; omega
theorem fold_ok (m : Int) (hm : W64 m) : ∀ (l : List T3) (qs : Qs), (∀ x ∈ l, W64 x.1 ∧ x.2.1 < 18446744073709551616 ∧ W64 x.2.2) → (∀ q ∈ qs.map (·.1), qOk q) → ∀ q ∈ (l.foldl (openQ m) qs).map (·.1), qOk q
  | [], _, _, h => h
  | x :: t, qs, hl, h => by
    rw [List.foldl_cons]
    refine fold_ok m hm t _ (fun y hy => hl y (List.mem_cons_of_mem _ hy)) (fun q hq => ?_)
    rw [openQ_keys] at hq
    split at hq
    · exact h q hq
    · rcases List.mem_append.1 hq with hq | hq
      · exact h q hq
      · simp at hq
        subst hq
        have := hl x (by simp)
        exact ⟨this.1, hm, this.2.1⟩
/-- An answer keeps what holds of a trace. -/
theorem Tr.Inv.take {t : Tr} {a : Ans} (h : t.Inv) (ha : a.Ok) : (t.take a).Inv := ⟨h.ok, h.nd, h.rq, h.rk, fun b hb => by rcases List.mem_append.1 hb with hb | hb; exact h.hi b hb; simp at hb; subst hb; exact ha, h.ro⟩
theorem Tr.Inv.state {t : Tr} (h : t.Inv) (s : Int) : Tr.Inv { t with state := s } := ⟨h.ok, h.nd, h.rq, h.rk, h.hi, h.ro⟩
theorem isOpen_mem {q : Qn} {qs : Qs} : isOpen q qs = true ↔ (q, none) ∈ qs := by unfold isOpen; simp
theorem Tr.Inv.put {t : Tr} {a : Ans} (h : t.Inv) (ha : a.Ok) (hk : a.kn = true) (ho : isOpen a.q t.qs = true) : (t.put a).Inv := by
  have hm := isOpen_mem.1 ho
  have hq : a.q ∈ t.qs.map (·.1) := List.mem_map.2 ⟨_, hm, rfl⟩
  have hr : (t.put a).rec' = recOf (setQ a.q a t.qs) := fold_rec _ _ _
  have hnd : ((setQ a.q a t.qs).map (·.1)).Nodup := by rw [setQ_keys]; exact h.nd
  have hmem : ∀ p ∈ (t.put a).rec', (p.1 = a.q ∧ p.2 = a) ∨ p ∈ t.rec' := fun p hp => by
    rw [hr] at hp
    obtain ⟨k, b⟩ := p
    rcases (setQ_mem hq k (some b)).1 (recOf_keys.1 hp) with ⟨h1, h2⟩ | ⟨_, h2⟩
    · exact .inl ⟨h1, by simpa using h2⟩
    · exact .inr (recOf_keys.2 h2)
  refine ⟨fold_ok a.m ha.q.1 _ _ ha.ins (by rw [setQ_keys]; exact h.ok), fold_nd _ _ _ hnd, fun p hp => ?_, fun p hp => ?_, h.hi, fun p hp => ?_⟩
  · rcases hmem p hp with ⟨h1, h2⟩ | h1
    · rw [h1, h2]
    · exact h.rq p h1
  · rcases hmem p hp with ⟨h1, h2⟩ | h1
    · rw [h2]; exact hk
    · exact h.rk p h1
  · rcases hmem p hp with ⟨h1, h2⟩ | h1
    · rw [h2]; exact ha
    · exact h.ro p h1
end Go.Proofs.Ytiplgpefapeapaa

namespace Go.Proofs.Ytiplgpefapeapaa
open Go.RowKit

def Tr.new (im is : Int) (st : T3) : Tr := ⟨im, is, st, [((im, st.1, st.2.1), none)], 0, [], 0, [], false⟩
abbrev idV (a b : Int) : Value := .agg #[.int .i64 a, .int .i64 b]
theorem Sh.O.one {α : Type} (s : Sh α) (w : World) (x : α) (xs : Array Value) (e B : Nat) (hx : xs.toList = s.cf x) (hB : B ≤ w.heap.size) : s.O (w.alloc (.cells xs e)) B e (.slice (some ⟨w.heap.size, 0, none⟩) 1 1) [x] := by
  have hl : xs.size = s.sz := by rw [← Array.length_toList, hx]; exact s.len x
  refine ⟨by simp [Sh.cs, s.len], .inr ⟨w.heap.size, 1, xs, rfl, hB, heap_alloc_new w _, Nat.le_refl _, by simp [maxLen], by simpa using hl, ?_⟩⟩
  rw [List.take_of_length_le (by simp [hl]), hx]
  simp [Sh.cs]
theorem cells8 {w : World} {b : Nat} {x0 x1 x2 x3 x4 x5 x6 x7 : Value} {t : TypeId} (h : w.heap[b]? = some (.cells #[x0, x1, x2, x3, x4, x5, x6, x7] t (0, 0))) : w.cell? ⟨b, 0, none⟩ = some x0 ∧ w.cell? ⟨b, 1, none⟩ = some x1 ∧ w.cell? ⟨b, 2, none⟩ = some x2 ∧ w.cell? ⟨b, 3, none⟩ = some x3 ∧ w.cell? ⟨b, 4, none⟩ = some x4 ∧ w.cell? ⟨b, 5, none⟩ = some x5 ∧ w.cell? ⟨b, 6, none⟩ = some x6 ∧ w.cell? ⟨b, 7, none⟩ = some x7 ∧ (∀ o, w.frozen? ⟨b, o, none⟩ = false) ∧ b < w.heap.size := by
  refine ⟨?_, ?_, ?_, ?_, ?_, ?_, ?_, ?_, ?_, lt_of_blk h⟩ <;> simp [World.cell?, World.frozen?, h]
theorem setCs {w : World} {b : Nat} {cs : Array Value} {t : TypeId} {f : Nat × Nat} (h : w.heap[b]? = some (.cells cs t f)) (o : Nat) (v : Value) : (w.setCell ⟨b, o, none⟩ v).heap[b]? = some (.cells (cs.setIfInBounds o v) t f) := by
  simp [World.setCell, Array.getElem?_modify, h]
theorem setO {w : World} {b b' : Nat} (hb : b ≠ b') (o : Nat) (v : Value) : (w.setCell ⟨b', o, none⟩ v).heap[b]? = w.heap[b]? := Below.heap_setCell _ _ _ _ (by simpa using hb)
/-- An answer is copied into another block. -/
theorem cp8 {w : World} {X : Nat} {x0 x1 x2 x3 x4 x5 x6 x7 u0 u1 u2 u3 u4 u5 u6 u7 : Value} (h1 : w.heap[X]? = some (.cells #[x0, x1, x2, x3, x4, x5, x6, x7] tA (0, 0))) (h2 : w.heap[X + 1]? = some (.cells #[u0, u1, u2, u3, u4, u5, u6, u7] tA (0, 0))) (a : Option Addr) (n c : Nat) :
    (((((((((w.setCell ⟨X, 7, none⟩ (.slice a n c)).setCell ⟨X + 1, 0, none⟩ x0).setCell ⟨X + 1, 1, none⟩ x1).setCell ⟨X + 1, 2, none⟩ x2).setCell ⟨X + 1, 3, none⟩ x3).setCell ⟨X + 1, 4, none⟩ x4).setCell ⟨X + 1, 5, none⟩ x5).setCell ⟨X + 1, 6, none⟩ x6).setCell ⟨X + 1, 7, none⟩ (.slice a n c)).heap[X + 1]? = some (.cells #[x0, x1, x2, x3, x4, x5, x6, .slice a n c] tA (0, 0)) ∧
    Keeps [X, X + 1] w (((((((((w.setCell ⟨X, 7, none⟩ (.slice a n c)).setCell ⟨X + 1, 0, none⟩ x0).setCell ⟨X + 1, 1, none⟩ x1).setCell ⟨X + 1, 2, none⟩ x2).setCell ⟨X + 1, 3, none⟩ x3).setCell ⟨X + 1, 4, none⟩ x4).setCell ⟨X + 1, 5, none⟩ x5).setCell ⟨X + 1, 6, none⟩ x6).setCell ⟨X + 1, 7, none⟩ (.slice a n c)) ∧ KI w (((((((((w.setCell ⟨X, 7, none⟩ (.slice a n c)).setCell ⟨X + 1, 0, none⟩ x0).setCell ⟨X + 1, 1, none⟩ x1).setCell ⟨X + 1, 2, none⟩ x2).setCell ⟨X + 1, 3, none⟩ x3).setCell ⟨X + 1, 4, none⟩ x4).setCell ⟨X + 1, 5, none⟩ x5).setCell ⟨X + 1, 6, none⟩ x6).setCell ⟨X + 1, 7, none⟩ (.slice a n c)) := by
  have hk : Keeps [X, X + 1] w (((((((((w.setCell ⟨X, 7, none⟩ (.slice a n c)).setCell ⟨X + 1, 0, none⟩ x0).setCell ⟨X + 1, 1, none⟩ x1).setCell ⟨X + 1, 2, none⟩ x2).setCell ⟨X + 1, 3, none⟩ x3).setCell ⟨X + 1, 4, none⟩ x4).setCell ⟨X + 1, 5, none⟩ x5).setCell ⟨X + 1, 6, none⟩ x6).setCell ⟨X + 1, 7, none⟩ (.slice a n c)) := by
    refine (((((((((Keeps.refl _ w).setCell ?_ _).setCell ?_ _).setCell ?_ _).setCell ?_ _).setCell ?_ _).setCell ?_ _).setCell ?_ _).setCell ?_ _).setCell ?_ _ <;> exact .inr (by simp)
  refine ⟨?_, hk, hk.ki (fun b hb cs f e => ?_)⟩
  · clear hk
    have s0 := (setO (b := X + 1) (b' := X) (by omega) 7 (.slice a n c)).trans h2
    generalize w.setCell ⟨X, 7, none⟩ (.slice a n c) = w0 at s0 ⊢
    have s1 := setCs s0 0 x0
    generalize w0.setCell ⟨X + 1, 0, none⟩ x0 = w1 at s1 ⊢
    have s2 := setCs s1 1 x1
    generalize w1.setCell ⟨X + 1, 1, none⟩ x1 = w2 at s2 ⊢
    have s3 := setCs s2 2 x2
    generalize w2.setCell ⟨X + 1, 2, none⟩ x2 = w3 at s3 ⊢
    have s4 := setCs s3 3 x3
    generalize w3.setCell ⟨X + 1, 3, none⟩ x3 = w4 at s4 ⊢
    have s5 := setCs s4 4 x4
    generalize w4.setCell ⟨X + 1, 4, none⟩ x4 = w5 at s5 ⊢
    have s6 := setCs s5 5 x5
    generalize w5.setCell ⟨X + 1, 5, none⟩ x5 = w6 at s6 ⊢
    have s7 := setCs s6 6 x6
    generalize w6.setCell ⟨X + 1, 6, none⟩ x6 = w7 at s7 ⊢
    have s8 := setCs s7 7 (.slice a n c)
    generalize w7.setCell ⟨X + 1, 7, none⟩ (.slice a n c) = w8 at s8 ⊢
    simpa using s8
  · simp at hb
    rcases hb with rfl | rfl
    · rw [h1] at e; cases e
    · rw [h2] at e; cases e
end Go.Proofs.Ytiplgpefapeapaa

namespace Go.Proofs.Ytiplgpefapeapaa
open Go.RowKit

def AnV.odd (m ep : Int) (x : AnV) : Bool := x.m == m && x.ep != ep
end Go.Proofs.Ytiplgpefapeapaa

namespace Go.Proofs.Ytiplgpefapeapaa
open Go.RowKit

theorem MapS.M.at' {P : Program} {kt : TypeId} {κ : Type} [DecidableEq κ] {α : Type} {K : MapS.KT P kt κ} {vf : α → Value} {w w' : World} {b : Nat} {L : List (κ × α)} (h : MapS.M K vf w b L) (hb : w'.heap[b]? = w.heap[b]?) : MapS.M K vf w' b L := by
  obtain ⟨⟨D, ⟨es, clock, h1, F, hs, hD⟩, h2, h3⟩, ha, hw⟩ := h
  exact ⟨⟨D, ⟨es, clock, hb.trans h1, F, hs, hD⟩, h2, h3⟩, ha, hw⟩
namespace TrM
variable {w w' : World} {B bt bm : Nat} {vo vh vg : Value} {t : Tr}
end TrM
/-- What a step leaves, and which blocks it then writes. -/
structure Mv (S S' : List Nat) (w w' : World) : Prop where
  k : Keeps S w w'
  i : KI w w'
  s : ∀ b ∈ S', b ∈ S ∨ w.heap.size ≤ b
theorem Mv.trans {S S' S'' : List Nat} {a b c : World} (h : Mv S S' a b) (g : Mv S' S'' b c) : Mv S S'' a c :=
  ⟨h.k.fresh g.k h.s, h.i.trans g.i, fun x hx => (g.s x hx).elim (h.s x) (fun hle => .inr (Nat.le_trans h.k.size hle))⟩
theorem Mv.nil {S : List Nat} {w w' : World} (h : Keeps [] w w') : Mv S S w w' := ⟨h.of_nil, h.ki0, fun _ hb => .inl hb⟩
namespace TrM
variable {w w' : World} {B bt bm : Nat} {vo vh vg : Value} {t : Tr}
end TrM
end Go.Proofs.Ytiplgpefapeapaa

namespace Go.Proofs.Ytiplgpefapeapaa
open Go.RowKit

/-- The cells of an answer that comes in say this answer. -/
structure InR (w : World) (x : AnV) (y : Ans) : Prop where
  m : x.m = y.m
  ow : x.ow = y.ow
  n : x.n = y.n
  ep : x.ep = y.ep
  kn : x.kn = y.kn
  rt : x.rt = y.rt
  lu : x.lu = y.lu
  ins : shT.R w x.v y.ins
theorem Sh.R.keepE {α : Type} {s : Sh α} {w w' : World} {v : Value} {L : List α} {S : List Nat} (h : s.R w v L) (hk : Keeps S w w') (hS : ∀ b ∈ S, L ≠ [] → v.ownBlock ≠ some b) : s.R w' v L := by
  by_cases e : L = []
  · subst e
    obtain ⟨h1, a, cap, rfl, h2, h3, h0, _⟩ := h
    exact ⟨h1, a, cap, rfl, h2, h3, h0, fun hp => by simp [Sh.cs] at hp⟩
  · exact h.keepS hk (fun b hb => hS b hb e)
theorem InR.keep {w w' : World} {x : AnV} {y : Ans} {S : List Nat} (h : InR w x y) (hk : Keeps S w w') (hS : ∀ b ∈ S, x.v.ownBlock ≠ some b) : InR w' x y := ⟨h.m, h.ow, h.n, h.ep, h.kn, h.rt, h.lu, h.ins.keepS hk hS⟩
theorem keepsP_remade {S : Nat → Prop} (w : World) (A B : Obj) (hS : S w.heap.size) : Free.KeepsP S (w.alloc A) (w.alloc B) :=
  ⟨rfl, rfl, rfl, by simp, fun k hk hn => by
    have hk' : k < w.heap.size + 1 := by simpa using hk
    have hne : k ≠ w.heap.size := fun e => hn (e ▸ hS)
    rw [Below.heap_alloc _ _ _ (by omega), Below.heap_alloc _ _ _ (by omega)]⟩
theorem Free.KeepsP.drews {S : Nat → Prop} {a b : World} (h : Free.KeepsP S a b) : Free.KeepsP S a.drew b.drew := ⟨h.os, h.tape, h.output, h.size, h.block⟩
/-- What the map of the answers says of a question. -/
theorem LR.open {w : World} {R : List (Qn × AnV)} {t : Tr} {q : Qn} (h : LR w R t.rec') (hnd : t.op.Nodup) : ((MapS.get q R).isSome = true → isOpen q t.qs = false) ∧ ((MapS.get q R).isSome = false → isOpen q t.qs = decide (q ∈ t.op)) := by
  constructor
  · intro hs
    rcases h.2 q with ⟨h1, _⟩ | ⟨x, y, h1, h2, _⟩
    · rw [h1] at hs; cases hs
    · have hm := (get_rec hnd q y).1 h2
      cases ho : isOpen q t.qs with
      | false => rfl
      | true => have := nd_val hnd hm (isOpen_mem.1 ho); cases this
  · intro hs
    rcases h.2 q with ⟨h1, h2⟩ | ⟨x, y, h1, h2, _⟩
    · unfold isOpen
      rw [decide_eq_decide]
      constructor
      · exact fun hm => List.mem_map.2 ⟨_, hm, rfl⟩
      · intro hm
        obtain ⟨⟨k, u⟩, hm2, rfl⟩ := List.mem_map.1 hm
        cases u with
        | none => exact hm2
        | some b => rw [show MapS.get (k, some b).1 t.rec' = _ from (get_rec hnd k b).2 hm2] at h2; cases h2
    · rw [h1] at hs; cases hs
theorem LA.any {w : World} {m ep : Int} : ∀ {X : List AnV} {Y : List Ans}, LA w X Y → Y.any (Ans.odd m ep) = X.any (AnV.odd m ep)
  | [], [], _ => rfl
  | [], _ :: _, h => by have := h.1; simp at this
  | _ :: _, [], h => by have := h.1; simp at this
  | x :: X, y :: Y, h => by
    have ih := LA.any (X := X) (Y := Y) (m := m) (ep := ep) ⟨by have := h.1; simpa using this, fun k a b ha hb => h.2 (k + 1) a b (by simpa using ha) (by simpa using hb)⟩
    have h0 := h.2 0 x y rfl rfl
    rw [List.any_cons, List.any_cons, ih, Ans.odd, AnV.odd, h0.m, h0.ep]
/-- A trace whose answer is half in. -/
def Tr.mid (t : Tr) (a : Ans) (k : Nat) : Tr := { t.take a with qs := (a.ins.take k).foldl (openQ a.m) (setQ a.q a t.qs) }
theorem Tr.mid_all (t : Tr) (a : Ans) : t.mid a a.ins.length = (t.take a).put a := by unfold Tr.mid Tr.put; rw [List.take_length]; rfl
theorem Tr.mid_op (t : Tr) (a : Ans) (k : Nat) (h : t.qs.length + a.ins.length ≤ 1000) : (t.mid a k).op.length ≤ 1000 := by
  have h1 := fold_len a.m (a.ins.take k) (setQ a.q a t.qs)
  have h2 : (setQ a.q a t.qs).length = t.qs.length := by unfold setQ; simp
  have h3 : (a.ins.take k).length ≤ a.ins.length := by simp; omega
  unfold Tr.op Tr.mid
  simp only [List.length_map]
  omega
theorem Tr.mid_succ (t : Tr) (a : Ans) (k : Nat) (hk : k < a.ins.length) : t.mid a (k + 1) = { t.mid a k with qs := openQ a.m (t.mid a k).qs a.ins[k] } := by
  unfold Tr.mid
  rw [List.take_succ_eq_append_getElem hk, List.foldl_append]; rfl
theorem Tr.mid_old (t : Tr) (a : Ans) (k : Nat) (hk : k < a.ins.length) (h : (a.ins[k].1, a.m, a.ins[k].2.1) ∈ (t.mid a k).op) : t.mid a (k + 1) = t.mid a k := by
  rw [Tr.mid_succ t a k hk, show openQ a.m (t.mid a k).qs a.ins[k] = (t.mid a k).qs from if_pos h]
theorem Tr.mid_new (t : Tr) (a : Ans) (k : Nat) (hk : k < a.ins.length) (h : (a.ins[k].1, a.m, a.ins[k].2.1) ∉ (t.mid a k).op) : t.mid a (k + 1) = { t.mid a k with qs := (t.mid a k).qs ++ [((a.ins[k].1, a.m, a.ins[k].2.1), none)] } := by
  rw [Tr.mid_succ t a k hk, show openQ a.m (t.mid a k).qs a.ins[k] = _ from if_neg h]
end Go.Proofs.Ytiplgpefapeapaa

namespace Go.Proofs.Ytiplgpefapeapaa
open Go.RowKit

/-- What a question asks. -/
def askOf (p : Qn × Option Ans) : Option T3 := if p.2.isSome then none else some (p.1.1, p.1.2.2, p.1.2.1)
def Tr.queries (t : Tr) : Tr × List T3 := if t.state ≠ 0 then (t, []) else ({ t with told := t.qs.length }, (t.qs.drop t.told.toNat).filterMap askOf)
theorem ask_step (l : List (Qn × Option Ans)) (k : Nat) (hk : k < l.length) : (l.take (k + 1)).filterMap askOf = (l.take k).filterMap askOf ++ (askOf l[k]).toList := by
  rw [List.take_succ_eq_append_getElem hk, List.filterMap_append]
  cases h : askOf l[k] <;> simp [h]
theorem LR.some {w : World} {R : List (Qn × AnV)} {t : Tr} {q : Qn} {u : Option Ans} (h : LR w R t.rec') (hnd : t.op.Nodup) (hm : (q, u) ∈ t.qs) : (MapS.get q R).isSome = u.isSome := by
  rcases h.2 q with ⟨h1, h2⟩ | ⟨x, y, h1, h2, _⟩
  · rw [h1]
    cases u with
    | none => rfl
    | some b => rw [show MapS.get q t.rec' = _ from (get_rec hnd q b).2 hm] at h2; cases h2
  · rw [h1]
    have := nd_val hnd ((get_rec hnd q y).1 h2) hm
    rw [← this]; rfl
end Go.Proofs.Ytiplgpefapeapaa

namespace Go.Proofs.Ytiplgpefapeapaa
open Go.RowKit Go
namespace MapS
variable {P : Program} {kt : TypeId} {κ : Type} [DecidableEq κ] {α : Type} {K : KT P kt κ} {vf : α → Value} {w w' : World} {b r : Nat} {L R : Es κ α}
theorem Rg.lt (h : Rg K vf w b r L R) : b < w.heap.size ∧ r < w.heap.size ∧ r ≠ b := by
  obtain ⟨⟨n, D, left, cnt, hr, _⟩, _⟩ := h
  exact ⟨hr.owns.lt, hr.lt, hr.ne⟩
theorem Rg.kept {S : List Nat} (h : Rg K vf w b r L R) (hk : Keeps S w w') (hb : b ∉ S) (hr : r ∉ S) : Rg K vf w' b r L R := by
  obtain ⟨hl1, hl2, _⟩ := h.lt
  obtain ⟨⟨n, D, left, cnt, ⟨es, clock, since, seen, c0, e1, F, hs, hD, e2, rest⟩, hR⟩, h2, h3, h4, h5⟩ := h
  exact ⟨⟨n, D, left, cnt, ⟨es, clock, since, seen, c0, (hk.block b hl1 hb).trans e1, F, hs, hD, (hk.block r hl2 hr).trans e2, rest⟩, hR⟩, h2, h3, h4, h5⟩
theorem Rg.keeps (h : Rg K vf w b r L R) (hk : Keeps [] w w') : Rg K vf w' b r L R := h.kept hk (by simp) (by simp)
theorem del_self {x : κ} : ∀ {L : Es κ α}, x ∉ L.map (·.1) → del x L = L := fun {L} h => List.filter_eq_self.2 (fun p hp => by
  have : p.1 ≠ x := fun e => h (List.mem_map.2 ⟨p, hp, e⟩)
  simp [this])
theorem perm_del {x : κ} {u : α} : ∀ {L : Es κ α}, ND L → (x, u) ∈ L → L.Perm ((x, u) :: del x L)
  | [], _, h => by simp at h
  | q :: s, hn, hm => by
    obtain ⟨n1, n2⟩ := List.nodup_cons.1 hn
    rcases List.mem_cons.1 hm with rfl | hm
    · have : del x ((x, u) :: s) = s := by
        have hs := del_self (x := x) (L := s) n1
        unfold del at hs ⊢
        rw [List.filter_cons_of_neg (by simp)]; exact hs
      rw [this]
    · have hqx : q.1 ≠ x := fun e => n1 (List.mem_map.2 ⟨(x, u), hm, e.symm⟩)
      have : del x (q :: s) = q :: del x s := by unfold del; rw [List.filter_cons_of_pos (by simp [hqx])]
      rw [this]
      exact ((perm_del n2 hm).cons q).trans (List.Perm.swap _ _ _)
end MapS
end Go.Proofs.Ytiplgpefapeapaa

namespace Go.Proofs.Ytiplgpefapeapaa
open Go.RowKit

/-- What is still to come of the recorded answers. -/
theorem LR.next {w : World} {R R' : List (Qn × AnV)} {Y : List (Qn × Ans)} {x : Qn} {u : AnV} (h : LR w R Y) (hn : MapS.ND R) (hY : MapS.ND Y) (hm : (x, u) ∈ R) (hp : R.Perm ((x, u) :: R')) :
    ∃ y, InA w u y ∧ Y.Perm ((x, y) :: MapS.del x Y) ∧ LR w R' (MapS.del x Y) ∧ MapS.ND (MapS.del x Y) := by
  have hgx := MapS.get_of_mem hn hm
  rcases h.2 x with ⟨h1, _⟩ | ⟨u', y, h1, h2, h3⟩
  · rw [hgx] at h1; cases h1
  · rw [hgx] at h1
    cases h1
    have hpy := MapS.perm_del hY (MapS.get_mem h2)
    refine ⟨y, h3, hpy, ⟨?_, fun q => ?_⟩, MapS.nd_del hY⟩
    · have e1 := hp.length_eq
      have e2 := hpy.length_eq
      have e3 := h.1
      simp at e1 e2; omega
    · have hn' : MapS.ND ((x, u) :: R') := by
        have h1 : (R.map (fun p => p.1)).Nodup := hn
        exact (hp.map (fun p => p.1)).nodup_iff.1 h1
      have hg : MapS.get q R = MapS.get q ((x, u) :: R') := MapS.get_perm hn' hp.symm
      have hnx : MapS.get x R' = none := MapS.get_none.2 (fun p hp e => (List.nodup_cons.1 hn').1 (List.mem_map.2 ⟨p, hp, e⟩))
      rw [MapS.get_del]
      by_cases e : q = x
      · subst e
        exact .inl ⟨hnx, by rw [if_pos rfl]⟩
      · rw [if_neg e]
        have : MapS.get q R' = MapS.get q R := by
          rw [hg]
          have e' : ¬ x = q := fun h => e h.symm
          simp [MapS.get, e']
        rw [this]
        exact h.2 q
/-- A sorted list of answers is the only one. -/
theorem sortedA_uniq : ∀ {Y Z : List Ans}, Y.Perm Z → Y.Pairwise (fun x y => qlt x.q y.q) → Z.Pairwise (fun x y => qlt x.q y.q) → Y = Z
  | [], Z, hp, _, _ => by simpa using hp.symm
  | y :: Y, [], hp, _, _ => by simp at hp
  | y :: Y, z :: Z, hp, h1, h2 => by
    have e : y = z := by
      obtain ⟨a1, _⟩ := List.pairwise_cons.1 h1
      obtain ⟨b1, _⟩ := List.pairwise_cons.1 h2
      have hy : y ∈ z :: Z := hp.mem_iff.1 (by simp)
      have hz : z ∈ y :: Y := hp.mem_iff.2 (by simp)
      rcases List.mem_cons.1 hy with e | hy
      · exact e
      · rcases List.mem_cons.1 hz with e | hz
        · exact e.symm
        · exact absurd (qlt_trans (a1 z hz) (b1 y hy)) (qlt_irrefl _)
    subst e
    rw [sortedA_uniq (List.perm_cons _ |>.1 hp) (List.pairwise_cons.1 h1).2 (List.pairwise_cons.1 h2).2]
/-- The recorded answers in their order. -/
def SortedA (t : Tr) (Y : List Ans) : Prop := Y.Perm (t.rec'.map (·.2)) ∧ Y.Pairwise (fun x y => qlt x.q y.q)
theorem SortedA.uniq {t : Tr} {Y Z : List Ans} (h : SortedA t Y) (h2 : SortedA t Z) : Y = Z := sortedA_uniq (h.1.trans h2.1.symm) h.2 h2.2
/-- The order of cells and of answers. -/
theorem LA.perm {w : World} {X X' : List AnV} {Y : List Ans} (h : LA w X Y) (hp : X'.Perm X) : ∃ Y', Y'.Perm Y ∧ LA w X' Y' := by
  induction hp generalizing Y with
  | nil => exact ⟨Y, List.Perm.refl _, h⟩
  | @cons x l1 l2 hp ih =>
    cases Y with
    | nil => have := h.1; simp at this
    | cons y Y =>
      have h0 := h.2 0 x y rfl rfl
      obtain ⟨Y', p, hl⟩ := ih (Y := Y) ⟨by have := h.1; simpa using this, fun k a b ha hb => h.2 (k + 1) a b (by simpa using ha) (by simpa using hb)⟩
      refine ⟨y :: Y', p.cons y, by simp [hl.1], fun k a b ha hb => ?_⟩
      cases k with
      | zero => simp at ha hb; subst ha hb; exact h0
      | succ k => exact hl.2 k a b (by simpa using ha) (by simpa using hb)
  | @swap x y l =>
    match Y, h with
    | [], h => have := h.1; simp at this
    | [_], h => have := h.1; simp at this
    | a :: b :: Y, h =>
      have h0 := h.2 0 _ _ rfl rfl
      have h1 := h.2 1 _ _ rfl rfl
      refine ⟨b :: a :: Y, List.Perm.swap _ _ _, by have := h.1; simpa using this, fun k u v hu hv => ?_⟩
      match k with
      | 0 => simp at hu hv; subst hu hv; exact h1
      | 1 => simp at hu hv; subst hu hv; exact h0
      | k + 2 => exact h.2 (k + 2) u v (by simpa using hu) (by simpa using hv)
  | trans p1 p2 ih1 ih2 =>
    obtain ⟨Y1, q1, h1⟩ := ih2 h
    obtain ⟨Y2, q2, h2⟩ := ih1 h1
    exact ⟨Y2, q2.trans q1, h2⟩
theorem LA.keys {w : World} {X : List AnV} {Y : List Ans} (h : LA w X Y) : X.map AnV.q = Y.map Ans.q := by
  refine List.ext_getElem (by simp [h.1]) (fun k h1 h2 => ?_)
  simp only [List.getElem_map]
  exact (h.2 k _ _ (List.getElem?_eq_getElem _) (List.getElem?_eq_getElem _)).q
end Go.Proofs.Ytiplgpefapeapaa

namespace Go.Proofs.Ytiplgpefapeapaa
open Go.RowKit

/-- A claim. -/
structure PCl where
  m : Int
  ep : Int
  st : List T3
  sc : List T3
  ch : List T3
  deriving DecidableEq
def PCl.at (x : PCl) : Nat → List T3
  | 0 => x.st
  | 1 => x.sc
  | _ => x.ch
def PCl.upd (x : PCl) (j : Nat) (L : List T3) : PCl := match j with
  | 0 => { x with st := L }
  | 1 => { x with sc := L }
  | _ => { x with ch := L }
abbrev SlT := Option Addr × Nat × Nat
abbrev nilT : SlT := (none, 0, 0)
def rowsC (P : List PCl) (V : Nat → Nat → SlT) : List ClV := P.mapIdx (fun k p => ⟨p.m, p.ep, V k 0, V k 1, V k 2⟩)
theorem rowsC_len (P : List PCl) (V : Nat → Nat → SlT) : (rowsC P V).length = P.length := by simp [rowsC]
theorem rowsC_get (P : List PCl) (V : Nat → Nat → SlT) (k : Nat) (hk : k < P.length) : (rowsC P V)[k]'(by rw [rowsC_len]; exact hk) = ⟨P[k].m, P[k].ep, V k 0, V k 1, V k 2⟩ := by simp [rowsC]
def updV (V : Nat → Nat → SlT) (k j : Nat) (v : SlT) : Nat → Nat → SlT := fun a b => if a = k ∧ b = j then v else V a b
structure CL (w : World) (B : Nat) (vc : Value) (P : List PCl) (V : Nat → Nat → SlT) : Prop where
  c : shC.O w B tC vc (rowsC P V)
  o : ∀ k j (hk : k < P.length), j < 3 → shT.O w B tN (slv (V k j)) (P[k].at j)
  d : ∀ k j k' j' b, k < P.length → j < 3 → k' < P.length → j' < 3 → (slv (V k j)).ownBlock = some b → (slv (V k' j')).ownBlock = some b → k = k' ∧ j = j'
theorem CL.nil (w : World) (B : Nat) (V : Nat → Nat → SlT) : CL w B (.slice none 0 0) [] V := ⟨Sh.O.nil _ _ _ _, fun k j hk => by simp at hk, fun k j k' j' b hk => by simp at hk⟩
namespace CL
variable {w w' : World} {B : Nat} {vc vc' : Value} {P : List PCl} {V : Nat → Nat → SlT}
theorem keeps (h : CL w B vc P V) (hk : Keeps [] w w') : CL w' B vc P V := ⟨h.c.keeps hk, fun k j h1 h2 => (h.o k j h1 h2).keeps hk, h.d⟩
/-- The rows' blocks are no needs' blocks. -/
theorem ne (h : CL w B vc P V) {k j b : Nat} (hk : k < P.length) (hj : j < 3) (h1 : (slv (V k j)).ownBlock = some b) : vc.ownBlock ≠ some b := fun e => by
  obtain ⟨cs, h2⟩ := (h.o k j hk hj).tag b h1
  obtain ⟨cs', h3⟩ := h.c.tag b e
  exact tag_ne h2 h3 (by decide) rfl
theorem push (h : CL w B vc P V) (m ep : Int) (hG : Grw w w' vc vc') (hO : shC.O w' B tC vc' (rowsC P V ++ [⟨m, ep, nilT, nilT, nilT⟩])) :
    CL w' B vc' (P ++ [⟨m, ep, [], [], []⟩]) (fun a b => if a = P.length then nilT else V a b) := by
  have hk := hG.keepsO
  refine ⟨?_, fun k j hk2 hj => ?_, fun k j k' j' b h1 h2 h3 h4 e1 e2 => ?_⟩
  · have e : rowsC (P ++ [⟨m, ep, [], [], []⟩]) (fun a b => if a = P.length then nilT else V a b) = rowsC P V ++ [⟨m, ep, nilT, nilT, nilT⟩] := by
      refine List.ext_getElem (by simp [rowsC_len]) (fun k h1 h2 => ?_)
      have hk1 : k < P.length + 1 := by simpa [rowsC_len] using h1
      rw [rowsC_get _ _ k (by simpa using hk1)]
      by_cases e : k = P.length
      · subst e
        simp [List.getElem_append, rowsC_len]
      · have hlt : k < P.length := by omega
        rw [show (rowsC P V ++ [⟨m, ep, nilT, nilT, nilT⟩])[k] = (rowsC P V)[k]'(by rw [rowsC_len]; exact hlt) from List.getElem_append_left _, rowsC_get P V k hlt]
        simp [List.getElem_append_left hlt, e]
    rw [e]; exact hO
  · by_cases e : k = P.length
    · subst e
      simp only [if_true]
      have : (P ++ [(⟨m, ep, [], [], []⟩ : PCl)])[P.length].at j = [] := by
        simp only [List.getElem_concat_length]
        unfold PCl.at; split <;> rfl
      rw [this]
      exact Sh.O.nil _ _ _ _
    · have hlt : k < P.length := by simp at hk2; omega
      simp only [if_neg e, List.getElem_append_left hlt]
      refine (h.o k j hlt hj).keepS hk (fun b hb e => ?_)
      exact h.ne hlt hj e (by simpa using hb)
  · have n1 : k ≠ P.length := fun e => by subst e; simp [slv, Value.ownBlock] at e1
    have n2 : k' ≠ P.length := fun e => by subst e; simp [slv, Value.ownBlock] at e2
    simp only [if_neg n1] at e1
    simp only [if_neg n2] at e2
    simp at h1 h3
    exact h.d k j k' j' b (by omega) h2 (by omega) h4 e1 e2
theorem at_upd (x : PCl) (j j' : Nat) (L : List T3) (hj : j < 3) (hj' : j' < 3) : (x.upd j L).at j' = if j' = j then L else x.at j' := by
  match j, j', hj, hj' with
  | 0, 0, _, _ => rfl
  | 0, 1, _, _ => rfl
  | 0, 2, _, _ => rfl
  | 1, 0, _, _ => rfl
  | 1, 1, _, _ => rfl
  | 1, 2, _, _ => rfl
  | 2, 0, _, _ => rfl
  | 2, 1, _, _ => rfl
  | 2, 2, _, _ => rfl
theorem upd_m (x : PCl) (j : Nat) (L : List T3) : (x.upd j L).m = x.m ∧ (x.upd j L).ep = x.ep := by unfold PCl.upd; split <;> exact ⟨rfl, rfl⟩
/-- One list of needs turns, in its own block. -/
theorem turn (h : CL w B vc P V) {k j : Nat} (hk : k < P.length) (hj : j < 3) {L' : List T3} (hK : Keeps (slv (V k j)).ownBlock.toList w w') (hO : shT.O w' B tN (slv (V k j)) L') : CL w' B vc (P.set k (P[k].upd j L')) V := by
  refine ⟨?_, fun k' j' hk' hj' => ?_, fun k' j' k2 j2 b h1 h2 h3 h4 e1 e2 => h.d k' j' k2 j2 b (by simpa using h1) h2 (by simpa using h3) h4 e1 e2⟩
  · have e : rowsC (P.set k (P[k].upd j L')) V = rowsC P V := by
      refine List.ext_getElem (by simp [rowsC_len]) (fun i h1 h2 => ?_)
      have hi : i < P.length := by simpa [rowsC_len] using h2
      rw [rowsC_get _ _ i (by simpa using hi), rowsC_get P V i hi]
      rw [List.getElem_set]
      split
      · rename_i e; subst e; rw [(upd_m _ _ _).1, (upd_m _ _ _).2]
      · rfl
    rw [e]
    exact h.c.keepS hK (fun b hb e => h.ne hk hj (by simpa using hb) e)
  · have hk2 : k' < P.length := by simpa using hk'
    rw [List.getElem_set]
    by_cases e : k = k'
    · subst e
      rw [if_pos rfl, at_upd _ _ _ _ hj hj']
      by_cases ej : j' = j
      · subst ej; rw [if_pos rfl]; exact hO
      · rw [if_neg ej]
        exact (h.o k j' hk hj').keepS hK (fun b hb e => ej (h.d k j k j' b hk hj hk hj' (by simpa using hb) e).2.symm)
    · rw [if_neg e]
      exact (h.o k' j' hk2 hj').keepS hK (fun b hb e2 => e (h.d k j k' j' b hk hj hk2 hj' (by simpa using hb) e2).1)
/-- One list of needs has grown; the row's cell is stored. -/
theorem app {g n c : Nat} (h : CL w B (.slice (some ⟨g, 0, none⟩) n c) P V) {k j : Nat} (hk : k < P.length) (hj : j < 3) {L' : List T3} {v' : SlT} (hG : Grw w w' (slv (V k j)) (slv v')) (hO : shT.O w' B tN (slv v') L') :
    CL (w'.setCell ⟨g, k * 5 + (2 + j), none⟩ (slv v')) B (.slice (some ⟨g, 0, none⟩) n c) (P.set k (P[k].upd j L')) (updV V k j v') := by
  have hK := hG.keepsO
  have hcK : shC.O w' B tC (.slice (some ⟨g, 0, none⟩) n c) (rowsC P V) := h.c.keepS hK (fun b hb e => h.ne hk hj (by simpa using hb) e)
  have hk2 : Keeps [g] w' (w'.setCell ⟨g, k * 5 + (2 + j), none⟩ (slv v')) := (Keeps.refl _ _).setCell (.inr (by simp)) _
  have hgt : ∃ cs, w'.heap[g]? = some (Obj.cells cs tC (0, 0)) := hcK.tag g (by simp [Value.ownBlock])
  have hne : ∀ {L : List T3} {v : Value}, shT.O w' B tN v L → v.ownBlock ≠ some g := fun hO e => by
    obtain ⟨cs, hc⟩ := hO.tag g e
    obtain ⟨cs', hc'⟩ := hgt
    exact tag_ne hc hc' (by decide) rfl
  refine ⟨?_, fun k' j' hk' hj' => ?_, fun k' j' k2 j2 b h1 h2 h3 h4 e1 e2 => ?_⟩
  · have hkr : k < (rowsC P V).length := by rw [rowsC_len]; exact hk
    have hs := hcK.set hkr ⟨P[k].m, P[k].ep, updV V k j v' k 0, updV V k j v' k 1, updV V k j v' k 2⟩ (2 + j) (slv v') (by
      rw [rowsC_get P V k hk]
      match j, hj with
      | 0, _ => simp [shC, ClV.cs, updV]
      | 1, _ => simp [shC, ClV.cs, updV]
      | 2, _ => simp [shC, ClV.cs, updV]) (by show 2 + j < 5; omega) rfl
    have e : rowsC (P.set k (P[k].upd j L')) (updV V k j v') = (rowsC P V).set k ⟨P[k].m, P[k].ep, updV V k j v' k 0, updV V k j v' k 1, updV V k j v' k 2⟩ := by
      refine List.ext_getElem (by simp [rowsC_len]) (fun i h1 h2 => ?_)
      have hi : i < P.length := by simpa [rowsC_len] using h2
      rw [rowsC_get _ _ i (by simpa using hi), List.getElem_set, List.getElem_set]
      by_cases e : k = i
      · subst e; rw [if_pos rfl, if_pos rfl, (upd_m _ _ _).1, (upd_m _ _ _).2]
      · have e' : ¬ i = k := fun h => e h.symm
        rw [if_neg e, if_neg e, rowsC_get P V i hi]
        simp [updV, e']
    rw [e]; exact hs
  · have hk3 : k' < P.length := by simpa using hk'
    rw [List.getElem_set]
    by_cases e : k = k'
    · subst e
      rw [if_pos rfl, at_upd _ _ _ _ hj hj']
      by_cases ej : j' = j
      · subst ej
        rw [if_pos rfl]
        simp only [updV, and_self, if_true]
        exact hO.keepS hk2 (fun b hb e => by simp at hb; subst hb; exact hne hO e)
      · rw [if_neg ej]
        simp only [updV, ej, and_false, if_false]
        have h1 : shT.O w' B tN (slv (V k j')) (P[k].at j') := (h.o k j' hk hj').keepS hK (fun b hb e => ej (h.d k j k j' b hk hj hk hj' (by simpa using hb) e).2.symm)
        exact h1.keepS hk2 (fun b hb e => by simp at hb; subst hb; exact hne h1 e)
    · rw [if_neg e]
      have e' : ¬ k' = k := fun h => e h.symm
      simp only [updV, e', false_and, if_false]
      have h1 : shT.O w' B tN (slv (V k' j')) (P[k'].at j') := (h.o k' j' hk3 hj').keepS hK (fun b hb e2 => e (h.d k j k' j' b hk hj hk3 hj' (by simpa using hb) e2).1)
      exact h1.keepS hk2 (fun b hb e => by simp at hb; subst hb; exact hne h1 e)
  · have l1 : k' < P.length := by simpa using h1
    have l2 : k2 < P.length := by simpa using h3
    have old : ∀ a c, a < P.length → c < 3 → (slv (V a c)).ownBlock = some b → b < w.heap.size := fun a c ha hc e => (h.o a c ha hc).lt b e
    by_cases c1 : k' = k ∧ j' = j
    · by_cases c2 : k2 = k ∧ j2 = j
      · exact ⟨c1.1.trans c2.1.symm, c1.2.trans c2.2.symm⟩
      · exfalso
        obtain ⟨rfl, rfl⟩ := c1
        simp only [updV, and_self, if_true] at e1
        simp only [updV, if_neg c2] at e2
        rcases hG.own with e3 | ⟨q, e3, hq⟩
        · rw [e3] at e1
          have := h.d k' j' k2 j2 b l1 h2 l2 h4 e1 e2
          exact c2 ⟨this.1.symm, this.2.symm⟩
        · rw [e3] at e1; cases e1
          have := old k2 j2 l2 h4 e2; omega
    · by_cases c2 : k2 = k ∧ j2 = j
      · exfalso
        obtain ⟨rfl, rfl⟩ := c2
        simp only [updV, and_self, if_true] at e2
        simp only [updV, if_neg c1] at e1
        rcases hG.own with e3 | ⟨q, e3, hq⟩
        · rw [e3] at e2
          exact c1 (h.d k' j' k2 j2 b l1 h2 l2 h4 e1 e2)
        · rw [e3] at e2; cases e2
          have := old k' j' l1 h2 e1; omega
      · simp only [updV, if_neg c1] at e1
        simp only [updV, if_neg c2] at e2
        exact h.d k' j' k2 j2 b l1 h2 l2 h4 e1 e2
end CL
end Go.Proofs.Ytiplgpefapeapaa

namespace Go.Proofs.Ytiplgpefapeapaa
open Go.RowKit

abbrev zV (x : Int) : Value := .int .i64 x
theorem zeroZ (w : World) : (zeroValue 3).run Try.prog w = .ok (zV 0) w := by kernel_rfl

def outA (m : Int) (acc : List (Qn × Int)) (x : T3) : List (Qn × Int) := if (MapS.get (m, x.1, x.2.1) acc).isSome then acc else acc ++ [((m, x.1, x.2.1), x.2.2)]
def outsA (acc : List (Qn × Int)) (a : Ans) : List (Qn × Int) := a.ins.foldl (outA a.m) acc
def outsOf (Y : List Ans) : List (Qn × Int) := Y.foldl outsA []
def luOf (t : Tr) (q : Qn) : Int := ((MapS.get q t.rec').map Ans.lu).getD 0
def updL (P : List PCl) (j : Nat) (f : List T3 → List T3) : List PCl := match P[P.length - 1]? with
  | some c => P.set (P.length - 1) (c.upd j (f (c.at j)))
  | none => P
def openC (P : List PCl) (a : Ans) : List PCl := match P[P.length - 1]? with
  | some c => if c.m = a.m then P else P ++ [⟨a.m, a.ep, [], [], []⟩]
  | none => P ++ [⟨a.m, a.ep, [], [], []⟩]
def newC (P : List PCl) (a : Ans) : Bool := match P[P.length - 1]? with
  | some c => decide (c.m ≠ a.m)
  | none => true
def needC (O : List (Qn × Int)) (P : List PCl) (a : Ans) : List PCl := match MapS.get (a.ow, a.m, a.n) O with
  | some o => updL P 0 (fun l => l ++ [(a.ow, a.n, o)])
  | none => updL P 2 (fun l => l ++ [(a.ow, a.n, 0)])
def addN (n : T3) (l : List T3) : List T3 := if n ∈ l then l else l ++ [n]
def scC (t : Tr) (m : Int) (P : List PCl) (x : T3) : List PCl := updL P 1 (addN (x.1, x.2.1, luOf t (x.1, m, x.2.1)))
def rawC (t : Tr) (O : List (Qn × Int)) (P : List PCl) (a : Ans) : List PCl := a.ins.foldl (scC t a.m) (needC O (openC P a) a)
def rawOf (t : Tr) (O : List (Qn × Int)) (Y : List Ans) : List PCl := Y.foldl (rawC t O) []

theorem outA_len (m : Int) (acc : List (Qn × Int)) (x : T3) : (outA m acc x).length ≤ acc.length + 1 := by unfold outA; split <;> simp
theorem out_fold_len (m : Int) : ∀ (l : List T3) (acc : List (Qn × Int)), (l.foldl (outA m) acc).length ≤ acc.length + l.length
  | [], _ => by simp
  | x :: r, acc => by
    rw [List.foldl_cons]
    have := out_fold_len m r (outA m acc x)
    have := outA_len m acc x
    simp; omega
theorem foldl_succ {α β : Type} (f : β → α → β) (b : β) (l : List α) (k : Nat) (hk : k < l.length) : (l.take (k + 1)).foldl f b = f ((l.take k).foldl f b) l[k] := by
  rw [List.take_succ_eq_append_getElem hk, List.foldl_append]; rfl
theorem foldl_all {α β : Type} (f : β → α → β) (b : β) (l : List α) : (l.take l.length).foldl f b = l.foldl f b := by rw [List.take_length]
theorem updL_len (P : List PCl) (j : Nat) (f : List T3 → List T3) : (updL P j f).length = P.length := by unfold updL; split <;> simp
theorem updL_at {P : List PCl} {n : Nat} (hn : P.length = n + 1) (j : Nat) (f : List T3 → List T3) : updL P j f = P.set n ((P[n]'(by omega)).upd j (f ((P[n]'(by omega)).at j))) := by
  unfold updL
  rw [show P.length - 1 = n by omega, List.getElem?_eq_getElem (by omega)]
theorem openC_pos (P : List PCl) (a : Ans) : ∃ n, (openC P a).length = n + 1 ∧ n ≤ P.length := by
  unfold openC
  split
  · rename_i c h
    have := (List.getElem?_eq_some_iff.1 h).1
    split
    · exact ⟨P.length - 1, by omega, by omega⟩
    · exact ⟨P.length, by simp, by omega⟩
  · exact ⟨P.length, by simp, by omega⟩
theorem openC_new {P : List PCl} {a : Ans} (h : newC P a = true) : openC P a = P ++ [⟨a.m, a.ep, [], [], []⟩] := by
  unfold newC at h
  unfold openC
  split
  · rename_i c e
    rw [e] at h
    rw [if_neg (of_decide_eq_true h)]
  · rfl
theorem openC_old {P : List PCl} {a : Ans} (h : newC P a = false) : openC P a = P := by
  unfold newC at h
  unfold openC
  split
  · rename_i c e
    rw [e] at h
    rw [if_pos (Decidable.not_not.1 (of_decide_eq_false h))]
  · rename_i e
    rw [e] at h; cases h
theorem newC_at {P : List PCl} {n : Nat} (hn : P.length = n + 1) (a : Ans) : newC P a = ((P[n]'(by omega)).m != a.m) := by
  unfold newC
  rw [show P.length - 1 = n by omega, List.getElem?_eq_getElem (by omega)]
  simp only [ne_eq, decide_not]; rfl
theorem newC_nil {P : List PCl} (hn : P.length = 0) (a : Ans) : newC P a = true := by
  unfold newC
  rw [List.getElem?_eq_none (by omega)]
theorem needC_len (O : List (Qn × Int)) (P : List PCl) (a : Ans) : (needC O P a).length = P.length := by unfold needC; split <;> exact updL_len _ _ _
theorem scC_len (t : Tr) (m : Int) (P : List PCl) (x : T3) : (scC t m P x).length = P.length := updL_len _ _ _
theorem sc_fold_len (t : Tr) (m : Int) : ∀ (l : List T3) (P : List PCl), (l.foldl (scC t m) P).length = P.length
  | [], _ => rfl
  | x :: r, P => by rw [List.foldl_cons, sc_fold_len t m r, scC_len]
theorem upd_same (x : PCl) (j : Nat) (hj : j < 3) : x.upd j (x.at j) = x := by
  match j, hj with
  | 0, _ => rfl
  | 1, _ => rfl
  | 2, _ => rfl
/-- No list is longer than this. -/
def LenLe (P : List PCl) (N : Nat) : Prop := ∀ (k : Nat) (hk : k < P.length) (j : Nat), j < 3 → (P[k].at j).length ≤ N
theorem LenLe.mono {P : List PCl} {N M : Nat} (h : LenLe P N) (hM : N ≤ M) : LenLe P M := fun k hk j hj => Nat.le_trans (h k hk j hj) hM
theorem LenLe.updL {P : List PCl} {N : Nat} (h : LenLe P N) (j : Nat) (hj : j < 3) (f : List T3 → List T3) (hf : ∀ l, (f l).length ≤ l.length + 1) : LenLe (updL P j f) (N + 1) := by
  intro k hk j' hj'
  have hk2 : k < P.length := by rw [updL_len] at hk; exact hk
  obtain ⟨n, hn⟩ : ∃ n, P.length = n + 1 := ⟨P.length - 1, by omega⟩
  have e := updL_at hn j f
  simp only [e, List.getElem_set]
  split
  · rename_i e2
    subst e2
    rw [CL.at_upd _ _ _ _ hj hj']
    split
    · have := hf (P[n].at j); have := h n (by omega) j hj; omega
    · have := h n (by omega) j' hj'; omega
  · have := h k hk2 j' hj'; omega
theorem LenLe.openC {P : List PCl} {N : Nat} (h : LenLe P N) (a : Ans) : LenLe (openC P a) N := by
  have hp : LenLe (P ++ [⟨a.m, a.ep, [], [], []⟩]) N := fun k hk j hj => by
    by_cases e : k < P.length
    · rw [List.getElem_append_left e]; exact h k e j hj
    · have : k = P.length := by simp at hk; omega
      subst this
      simp only [List.getElem_concat_length]
      unfold PCl.at; split <;> simp
  unfold Go.Proofs.Ytiplgpefapeapaa.openC
  split
  · split
    · exact h
    · exact hp
  · exact hp
theorem LenLe.needC {P : List PCl} {N : Nat} (h : LenLe P N) (O : List (Qn × Int)) (a : Ans) : LenLe (needC O P a) (N + 1) := by
  unfold Go.Proofs.Ytiplgpefapeapaa.needC
  split
  · exact h.updL 0 (by omega) _ (fun l => by simp)
  · exact h.updL 2 (by omega) _ (fun l => by simp)
theorem addN_len (n : T3) (l : List T3) : (addN n l).length ≤ l.length + 1 := by unfold addN; split <;> simp
theorem LenLe.scs (t : Tr) (m : Int) : ∀ {l : List T3} {P : List PCl} {N : Nat}, LenLe P N → LenLe (l.foldl (scC t m) P) (N + l.length)
  | [], _, _, h => h
  | x :: r, P, N, h => by
    rw [List.foldl_cons]
    have h1 : LenLe (scC t m P x) (N + 1) := h.updL 1 (by omega) _ (addN_len _)
    have := LenLe.scs t m (l := r) h1
    exact this.mono (by simp; omega)
theorem LenLe.rawC {P : List PCl} {N : Nat} (h : LenLe P N) (t : Tr) (O : List (Qn × Int)) (a : Ans) (ha : a.ins.length ≤ 100000) : LenLe (rawC t O P a) (N + 100001) :=
  (LenLe.scs t a.m ((h.openC a).needC O a)).mono (by omega)
theorem rawC_len (t : Tr) (O : List (Qn × Int)) (P : List PCl) (a : Ans) : (rawC t O P a).length ≤ P.length + 1 := by
  unfold rawC
  rw [sc_fold_len, needC_len]
  obtain ⟨n, h1, h2⟩ := openC_pos P a
  omega
theorem rawOf_take (t : Tr) (O : List (Qn × Int)) (Y : List Ans) (hY : ∀ a ∈ Y, a.ins.length ≤ 100000) : ∀ k, k ≤ Y.length → LenLe (rawOf t O (Y.take k)) (k * 100001) ∧ (rawOf t O (Y.take k)).length ≤ k
  | 0, _ => ⟨fun k hk => by simp [rawOf] at hk, by simp [rawOf]⟩
  | k + 1, h => by
    obtain ⟨h1, h2⟩ := rawOf_take t O Y hY k (by omega)
    have hk : k < Y.length := by omega
    have e : rawOf t O (Y.take (k + 1)) = rawC t O (rawOf t O (Y.take k)) Y[k] := foldl_succ _ _ _ _ hk
    rw [e]
    refine ⟨(h1.rawC t O Y[k] (hY _ (List.getElem_mem hk))).mono (by omega), ?_⟩
    have := rawC_len t O (rawOf t O (Y.take k)) Y[k]
    omega
end Go.Proofs.Ytiplgpefapeapaa

namespace Go.Proofs.Ytiplgpefapeapaa
open Go.RowKit
theorem lt_of_blk' {w : World} {b : Nat} {o : Obj} (h : w.heap[b]? = some o) : b < w.heap.size := (Array.getElem?_eq_some_iff.1 h).1
theorem Sh.O.form1 {α : Type} {s : Sh α} {w : World} {B e : Nat} {v : Value} {L : List α} (h : s.O w B e v L) (hL : 0 < L.length) : ∃ g c, v = .slice (some ⟨g, 0, none⟩) L.length c ∧ B ≤ g ∧ ∃ cs, w.heap[g]? = some (Obj.cells cs e (0, 0)) := by
  rcases h.2 with ⟨rfl, h2⟩ | ⟨g, cap, cur, rfl, hb, hg, _⟩
  · exfalso
    have h3 := Sh.cs_len (s := s) L
    have hp := s.pos
    have : 1 * 1 ≤ L.length * s.sz := Nat.mul_le_mul hL hp
    rw [h2] at h3; simp at h3; omega
  · exact ⟨g, cap, rfl, hb, _, hg⟩
theorem CL.row {w : World} {B : Nat} {vc : Value} {P : List PCl} {V : Nat → Nat → SlT} (h : CL w B vc P V) {k : Nat} (hk : k < P.length) :
    ∃ g c, vc = .slice (some ⟨g, 0, none⟩) P.length c ∧ B ≤ g ∧ g < w.heap.size ∧ w.cell? ⟨g, k * 5, none⟩ = some (.int .i64 P[k].m) ∧ w.cell? ⟨g, k * 5 + 1, none⟩ = some (.int .i64 P[k].ep) ∧
      w.cell? ⟨g, k * 5 + 2, none⟩ = some (slv (V k 0)) ∧ w.cell? ⟨g, k * 5 + 3, none⟩ = some (slv (V k 1)) ∧ w.cell? ⟨g, k * 5 + 4, none⟩ = some (slv (V k 2)) ∧ (∀ o, w.frozen? ⟨g, o, none⟩ = false) := by
  have hkr : k < (rowsC P V).length := by rw [rowsC_len]; exact hk
  obtain ⟨g, c, rfl, hb, cs, hg⟩ := h.c.form1 (by omega)
  obtain ⟨g', o', c', e, he⟩ := h.c.r.elem hkr
  cases e
  rw [rowsC_get P V k hk] at he
  refine ⟨g, c, by rw [rowsC_len], hb, lt_of_blk hg, ?_, ?_, ?_, ?_, ?_, fun o => by simp [World.frozen?, hg]⟩
  · simpa [shC] using he 0 _ rfl
  · simpa [shC] using he 1 _ rfl
  · simpa [shC] using he 2 _ rfl
  · simpa [shC] using he 3 _ rfl
  · simpa [shC] using he 4 _ rfl
/-- What the gathering of claims leaves. -/
def KO (w w' : World) : Prop := w.heap.size ≤ w'.heap.size ∧ ∀ (b : Nat) (cs : Array Value) (e : TypeId) (f : Nat × Nat), w.heap[b]? = some (Obj.cells cs e f) → e ≠ tC → e ≠ tN → w'.heap[b]? = w.heap[b]?
theorem KO.trans {a b c : World} (h : KO a b) (g : KO b c) : KO a c := ⟨Nat.le_trans h.1 g.1, fun x cs e f h1 h2 h3 => by
  have e1 := h.2 x cs e f h1 h2 h3
  exact (g.2 x cs e f (e1.trans h1) h2 h3).trans e1⟩
theorem KO.of {S : List Nat} {w w' : World} (hk : Keeps S w w') (hS : ∀ b ∈ S, ∃ (cs : Array Value) (e : TypeId) (f : Nat × Nat), w.heap[b]? = some (Obj.cells cs e f) ∧ (e = tC ∨ e = tN)) : KO w w' := ⟨hk.size, fun b cs e f h1 h2 h3 => hk.block b (lt_of_blk' h1) (fun hb => by
  obtain ⟨cs', e', f', g1, g2⟩ := hS b hb
  rw [g1] at h1; cases h1
  rcases g2 with g2 | g2
  · exact h2 g2
  · exact h3 g2)⟩
theorem KO.nil {w w' : World} (hk : Keeps [] w w') : KO w w' := KO.of hk (by simp)
theorem KO.ki {w w' : World} (h : KO w w') : KI w w' := fun b cs f hb => (h.2 b cs _ f hb (by decide) (by decide)).trans hb
theorem KO.grwC {w w' : World} {B : Nat} {v v' : Value} {L : List ClV} (hG : Grw w w' v v') (hO : shC.O w B tC v L) : KO w w' := KO.of hG.keepsO (fun b hb => by
  obtain ⟨cs, hc⟩ := hO.tag b (by simpa using hb)
  exact ⟨cs, _, _, hc, .inl rfl⟩)
theorem KO.grwN {w w' : World} {B : Nat} {v v' : Value} {L : List T3} (hG : Grw w w' v v') (hO : shT.O w B tN v L) : KO w w' := KO.of hG.keepsO (fun b hb => by
  obtain ⟨cs, hc⟩ := hO.tag b (by simpa using hb)
  exact ⟨cs, _, _, hc, .inr rfl⟩)
theorem field_lu (w : World) (v0 v1 : Int) (v2 : Nat) (v3 : Int) (v4 v5 : Bool) (v6 : Int) (u : Value) (hu : u.cells.size = 1) : (Instr.field tA (.agg #[.int .i64 v0, .int .i64 v1, .int .u64 v2, .int .i64 v3, .bool v4, .bool v5, .int .i64 v6, u]) 6).run Try.prog w = .ok (.int .i64 v6) w := by
  kernel_rfl
theorem LR.lu {w : World} {R : List (Qn × AnV)} {t : Tr} (h : LR w R t.rec') (q : Qn) : ∃ xv : AnV, ((MapS.get q R).map aV).getD (aV .zero) = aV xv ∧ xv.lu = luOf t q := by
  unfold luOf
  rcases h.2 q with ⟨h1, h2⟩ | ⟨x, y, h1, h2, h3⟩
  · rw [h1, h2]; exact ⟨.zero, rfl, rfl⟩
  · rw [h1, h2]; exact ⟨x, rfl, h3.lu⟩
/-- The lists before this one are sorted. -/
def Srt (k j : Nat) (P Q : List PCl) : Prop := Q.length = P.length ∧ ∀ (i : Nat) (h1 : i < Q.length) (h2 : i < P.length), Q[i].m = P[i].m ∧ Q[i].ep = P[i].ep ∧
  ∀ l, l < 3 → (Q[i].at l).Perm (P[i].at l) ∧ (i < k ∨ (i = k ∧ l < j) → (Q[i].at l).Pairwise (fun x y => ¬ tlt y x))
theorem Srt.start (P : List PCl) : Srt 0 0 P P := ⟨rfl, fun i h1 h2 => ⟨rfl, rfl, fun l hl => ⟨List.Perm.refl _, fun h => by omega⟩⟩⟩
theorem Srt.next {k : Nat} {P Q : List PCl} (h : Srt k 3 P Q) : Srt (k + 1) 0 P Q := ⟨h.1, fun i h1 h2 => ⟨(h.2 i h1 h2).1, (h.2 i h1 h2).2.1, fun l hl => ⟨((h.2 i h1 h2).2.2 l hl).1, fun hh => ((h.2 i h1 h2).2.2 l hl).2 (by omega)⟩⟩⟩
theorem Srt.step {k j : Nat} {P Q : List PCl} (h : Srt k j P Q) (hk : k < Q.length) (hj : j < 3) {L : List T3} (hp : L.Perm (Q[k].at j)) (hw : L.Pairwise (fun x y => ¬ tlt y x)) : Srt k (j + 1) P (Q.set k (Q[k].upd j L)) := by
  refine ⟨by rw [List.length_set]; exact h.1, fun i h1 h2 => ?_⟩
  have h3 : i < Q.length := by simpa using h1
  obtain ⟨g1, g2, g3⟩ := h.2 i h3 h2
  rw [List.getElem_set]
  by_cases e : k = i
  · subst e
    simp only [if_true]
    refine ⟨(CL.upd_m _ _ _).1.trans g1, (CL.upd_m _ _ _).2.trans g2, fun l hl => ?_⟩
    rw [CL.at_upd _ _ _ _ hj hl]
    by_cases el : l = j
    · subst el
      rw [if_pos rfl]
      exact ⟨hp.trans (g3 l hl).1, fun _ => hw⟩
    · rw [if_neg el]
      exact ⟨(g3 l hl).1, fun hh => (g3 l hl).2 (by omega)⟩
  · simp only [if_neg e]
    exact ⟨g1, g2, fun l hl => ⟨(g3 l hl).1, fun hh => (g3 l hl).2 (by omega)⟩⟩
theorem cells3s {w : World} {b : Nat} {u : Nat → Value} {t : TypeId} {f : Nat × Nat} (h : w.heap[b]? = some (.cells #[u 0, u 1, u 2] t f)) {j : Nat} (hj : j < 3) : w.cell? ⟨b, j, none⟩ = some (u j) := by
  match j, hj with
  | 0, _ => simp [World.cell?, h]
  | 1, _ => simp [World.cell?, h]
  | 2, _ => simp [World.cell?, h]
end Go.Proofs.Ytiplgpefapeapaa

namespace Go.Proofs.Ytiplgpefapeapaa
open Go.RowKit

def ClaimsP (t : Tr) (Y : List Ans) (P : List PCl) : Prop :=
  P.length = (rawOf t (outsOf Y) Y).length ∧ ∀ (k : Nat) (h1 : k < P.length) (h2 : k < (rawOf t (outsOf Y) Y).length), P[k].m = (rawOf t (outsOf Y) Y)[k].m ∧ P[k].ep = (rawOf t (outsOf Y) Y)[k].ep ∧
    ∀ j, j < 3 → (P[k].at j).Perm ((rawOf t (outsOf Y) Y)[k].at j) ∧ (P[k].at j).Pairwise (fun x y => ¬ tlt y x)
def ClmPost (w : World) (t : Tr) (e : Ending) (w' : World) : Prop :=
  ∃ vc P V Bc Y, e = .returned vc ∧ w.heap.size ≤ Bc ∧ CL w' Bc vc P V ∧ SortedA t Y ∧ ClaimsP t Y P ∧ Keeps [] w w'
theorem map_ki {w w' : World} {bE : Nat} (hk : Keeps [bE] w w') {es : Array _} {c : Nat} (hb : w.heap[bE]? = some (Obj.map es c)) : KI w w' := hk.ki (fun b hb2 cs f e => by
  simp at hb2; subst hb2
  rw [hb] at e; cases e)
end Go.Proofs.Ytiplgpefapeapaa

namespace Go.Proofs.Ytiplgpefapeapaa
open Go.RowKit

theorem snoc_ind {α : Type} {p : List α → Prop} (h0 : p []) (hs : ∀ l a, p l → p (l ++ [a])) (l : List α) : p l := by
  rw [← List.reverse_reverse l]
  induction l.reverse with
  | nil => exact h0
  | cons a r ih => rw [List.reverse_cons]; exact hs _ _ ih
theorem nil_or_snoc {α : Type} (l : List α) : l = [] ∨ ∃ r a, l = r ++ [a] := by
  induction l using snoc_ind with
  | h0 => exact .inl rfl
  | hs r a _ => exact .inr ⟨r, a, rfl⟩
/-- The machines that have answered, in the order of their first answers. -/
def msA (l : List Int) (a : Ans) : List Int := if l.getLast? = some a.m then l else l ++ [a.m]
def msOf (Y : List Ans) : List Int := Y.foldl msA []
def epOf (Y : List Ans) (m : Int) : Int := ((Y.find? (fun a => a.m == m)).map Ans.ep).getD 0
def stA (O : List (Qn × Int)) (m : Int) (a : Ans) : Option T3 := if a.m = m then (MapS.get (a.ow, a.m, a.n) O).map (fun o => (a.ow, a.n, o)) else none
def chA (O : List (Qn × Int)) (m : Int) (a : Ans) : Option T3 := if a.m = m ∧ MapS.get (a.ow, a.m, a.n) O = none then some (a.ow, a.n, 0) else none
def stOf (O : List (Qn × Int)) (Y : List Ans) (m : Int) : List T3 := Y.filterMap (stA O m)
def chOf (O : List (Qn × Int)) (Y : List Ans) (m : Int) : List T3 := Y.filterMap (chA O m)
def scN (t : Tr) (m : Int) (x : T3) : T3 := (x.1, x.2.1, luOf t (x.1, m, x.2.1))
def scS (t : Tr) (m : Int) (l : List T3) (x : T3) : List T3 := addN (scN t m x) l
def scA (t : Tr) (m : Int) (l : List T3) (a : Ans) : List T3 := if a.m = m then a.ins.foldl (scS t m) l else l
def scOf (t : Tr) (Y : List Ans) (m : Int) : List T3 := Y.foldl (scA t m) []
def clOf (t : Tr) (O : List (Qn × Int)) (Y : List Ans) (m : Int) : PCl := ⟨m, epOf Y m, stOf O Y m, scOf t Y m, chOf O Y m⟩

theorem updL_snoc (P : List PCl) (c : PCl) (j : Nat) (f : List T3 → List T3) : updL (P ++ [c]) j f = P ++ [c.upd j (f (c.at j))] := by
  rw [updL_at (n := P.length) (by simp)]
  simp
theorem openC_snoc (P : List PCl) (c : PCl) (a : Ans) : openC (P ++ [c]) a = if c.m = a.m then P ++ [c] else P ++ [c] ++ [⟨a.m, a.ep, [], [], []⟩] := by
  unfold openC
  have : (P ++ [c])[(P ++ [c]).length - 1]? = some c := by simp
  rw [this]
theorem openC_nil (a : Ans) : openC [] a = [⟨a.m, a.ep, [], [], []⟩] := rfl
theorem sc_fold_snoc (t : Tr) (m : Int) (P : List PCl) : ∀ (l : List T3) (c : PCl), l.foldl (scC t m) (P ++ [c]) = P ++ [c.upd 1 (l.foldl (scS t m) c.sc)]
  | [], c => by simp [PCl.upd]
  | x :: r, c => by
    rw [List.foldl_cons, List.foldl_cons]
    unfold scC
    rw [updL_snoc]
    have ih := sc_fold_snoc t m P r (c.upd 1 (addN (x.1, x.2.1, luOf t (x.1, m, x.2.1)) (c.at 1)))
    unfold scC at ih
    rw [ih]
    rfl
theorem epOf_snoc {Y : List Ans} {m : Int} (h : ∃ b ∈ Y, b.m = m) (a : Ans) : epOf (Y ++ [a]) m = epOf Y m := by
  obtain ⟨b, hb, hm⟩ := h
  unfold epOf
  rw [List.find?_append]
  cases hf : Y.find? (fun a => a.m == m) with
  | some c => rfl
  | none =>
    rw [List.find?_eq_none] at hf
    have := hf b hb
    simp [hm] at this
theorem epOf_new {Y : List Ans} {a : Ans} (h : ∀ b ∈ Y, b.m ≠ a.m) : epOf (Y ++ [a]) a.m = a.ep := by
  unfold epOf
  rw [List.find?_append]
  have : Y.find? (fun b => b.m == a.m) = none := List.find?_eq_none.2 (fun b hb => by simpa using h b hb)
  rw [this]
  simp
theorem stOf_new {O : List (Qn × Int)} {Y : List Ans} {m : Int} (h : ∀ b ∈ Y, b.m ≠ m) : stOf O Y m = [] ∧ chOf O Y m = [] := by
  refine ⟨List.filterMap_eq_nil_iff.2 (fun a ha => ?_), List.filterMap_eq_nil_iff.2 (fun a ha => ?_)⟩
  · unfold stA; rw [if_neg (h a ha)]
  · unfold chA; rw [if_neg (fun e => h a ha e.1)]
theorem scOf_new {t : Tr} {m : Int} : ∀ {Y : List Ans} {l : List T3}, (∀ b ∈ Y, b.m ≠ m) → Y.foldl (scA t m) l = l
  | [], _, _ => rfl
  | a :: r, l, h => by
    rw [List.foldl_cons]
    have : scA t m l a = l := by unfold scA; rw [if_neg (h a (by simp))]
    rw [this]
    exact scOf_new (fun b hb => h b (by simp [hb]))
theorem clOf_snoc {t : Tr} {O : List (Qn × Int)} {Y : List Ans} {m : Int} {a : Ans} (hm : a.m ≠ m) (h : ∃ b ∈ Y, b.m = m) : clOf t O (Y ++ [a]) m = clOf t O Y m := by
  unfold clOf
  rw [epOf_snoc h]
  have e1 : stOf O (Y ++ [a]) m = stOf O Y m := by unfold stOf; rw [List.filterMap_append]; simp [stA, hm]
  have e2 : chOf O (Y ++ [a]) m = chOf O Y m := by unfold chOf; rw [List.filterMap_append]; simp [chA, hm]
  have e3 : scOf t (Y ++ [a]) m = scOf t Y m := by unfold scOf; rw [List.foldl_append]; simp [scA, hm]
  rw [e1, e2, e3]
/-- The raw claims, machine by machine. -/
theorem rawOf_eq (t : Tr) (O : List (Qn × Int)) (Y : List Ans) : Y.Pairwise (fun x y => qlt x.q y.q) → rawOf t O Y = (msOf Y).map (clOf t O Y) ∧ (msOf Y).Pairwise (· < ·) ∧ ∀ m, m ∈ msOf Y ↔ ∃ a ∈ Y, a.m = m := by
  induction Y using snoc_ind with
  | h0 => exact fun _ => ⟨rfl, List.Pairwise.nil, fun m => by simp [msOf]⟩
  | hs Y a ih =>
    intro hs
    obtain ⟨hs1, _, hs2⟩ := List.pairwise_append.1 hs
    obtain ⟨i1, i2, i3⟩ := ih hs1
    have hle : ∀ b ∈ Y, b.m ≤ a.m := fun b hb => by have := hs2 b hb a (by simp); unfold qlt Ans.q at this; simp only at this; omega
    have hmm : msOf (Y ++ [a]) = msA (msOf Y) a := by unfold msOf; rw [List.foldl_append]; rfl
    have hrr : rawOf t O (Y ++ [a]) = rawC t O (rawOf t O Y) a := by unfold rawOf; rw [List.foldl_append]; rfl
    obtain ⟨A, h1, h2, h3, h4, h5⟩ : ∃ A, msOf (Y ++ [a]) = A ++ [a.m] ∧ openC (rawOf t O Y) a = A.map (clOf t O Y) ++ [⟨a.m, epOf (Y ++ [a]) a.m, stOf O Y a.m, scOf t Y a.m, chOf O Y a.m⟩] ∧ (∀ m ∈ A, m < a.m) ∧ A.Pairwise (· < ·) ∧ ∀ m ∈ A, ∃ b ∈ Y, b.m = m := by
      rcases nil_or_snoc (msOf Y) with h | ⟨B, l, h⟩
      · have hY : ∀ b ∈ Y, b.m ≠ a.m := fun b hb _ => by
          have := (i3 b.m).2 ⟨b, hb, rfl⟩
          rw [h] at this; simp at this
        refine ⟨[], by rw [hmm, h]; rfl, ?_, by simp, List.Pairwise.nil, by simp⟩
        rw [i1, h, epOf_new hY, (stOf_new hY).1, (stOf_new hY).2]
        unfold scOf
        rw [scOf_new hY]
        rfl
      · have hl : l ∈ msOf Y := by rw [h]; simp
        obtain ⟨b, hb, hbl⟩ := (i3 l).1 hl
        have hBl : ∀ m ∈ B, m < l := fun m hm => by
          rw [h] at i2
          exact (List.pairwise_append.1 i2).2.2 m hm l (by simp)
        have hB : B.Pairwise (· < ·) := by rw [h] at i2; exact (List.pairwise_append.1 i2).1
        have hBY : ∀ m ∈ B, ∃ b ∈ Y, b.m = m := fun m hm => (i3 m).1 (by rw [h]; simp [hm])
        by_cases e : l = a.m
        · subst e
          refine ⟨B, by rw [hmm, h]; simp [msA], ?_, hBl, hB, hBY⟩
          rw [i1, h, List.map_append, List.map_cons, List.map_nil, openC_snoc, if_pos (show (clOf t O Y a.m).m = a.m from rfl), epOf_snoc ⟨b, hb, hbl⟩]
          rfl
        · have hla : l < a.m := by have := hle b hb; omega
          have hY : ∀ b ∈ Y, b.m ≠ a.m := fun c hc hca => by
            have := (i3 c.m).2 ⟨c, hc, rfl⟩
            rw [h] at this
            rcases List.mem_append.1 this with h6 | h6
            · have := hBl _ h6; omega
            · simp at h6; omega
          refine ⟨B ++ [l], by rw [hmm, h]; simp [msA, e], ?_, fun m hm => ?_, ?_, fun m hm => ?_⟩
          · rw [i1, h, List.map_append, List.map_cons, List.map_nil, openC_snoc, if_neg (show ¬ (clOf t O Y l).m = a.m from e), epOf_new hY, (stOf_new hY).1, (stOf_new hY).2]
            unfold scOf
            rw [scOf_new hY]
          · rcases List.mem_append.1 hm with h6 | h6
            · have := hBl _ h6; omega
            · simp at h6; omega
          · rw [← h]; exact i2
          · exact (i3 m).1 (by rw [h]; exact hm)
    refine ⟨?_, ?_, fun m => ?_⟩
    · rw [hrr, h1, List.map_append, List.map_cons, List.map_nil]
      have hA : A.map (clOf t O (Y ++ [a])) = A.map (clOf t O Y) := List.map_congr_left (fun m hm => clOf_snoc (by have := h3 m hm; omega) (h5 m hm))
      rw [hA]
      unfold rawC
      rw [h2]
      have e3 : scOf t (Y ++ [a]) a.m = a.ins.foldl (scS t a.m) (scOf t Y a.m) := by unfold scOf; rw [List.foldl_append]; simp [scA]
      unfold needC clOf
      cases hg : MapS.get (a.ow, a.m, a.n) O with
      | some o =>
        have e1 : stOf O (Y ++ [a]) a.m = stOf O Y a.m ++ [(a.ow, a.n, o)] := by unfold stOf; rw [List.filterMap_append]; simp [stA, hg]
        have e2 : chOf O (Y ++ [a]) a.m = chOf O Y a.m := by unfold chOf; rw [List.filterMap_append]; simp [chA, hg]
        simp only
        rw [updL_snoc, sc_fold_snoc, e1, e2, e3]
        rfl
      | none =>
        have e1 : stOf O (Y ++ [a]) a.m = stOf O Y a.m := by unfold stOf; rw [List.filterMap_append]; simp [stA, hg]
        have e2 : chOf O (Y ++ [a]) a.m = chOf O Y a.m ++ [(a.ow, a.n, 0)] := by unfold chOf; rw [List.filterMap_append]; simp [chA, hg]
        simp only
        rw [updL_snoc, sc_fold_snoc, e1, e2, e3]
        rfl
    · rw [h1, List.pairwise_append]
      exact ⟨h4, by simp, fun m hm k hk => by simp at hk; subst hk; exact h3 m hm⟩
    · rw [h1, List.mem_append]
      constructor
      · rintro (h6 | h6)
        · obtain ⟨b, hb, e⟩ := h5 m h6
          exact ⟨b, by simp [hb], e⟩
        · simp at h6; exact ⟨a, by simp, h6.symm⟩
      · rintro ⟨b, hb, e⟩
        rcases List.mem_append.1 hb with hb | hb
        · have := (i3 m).2 ⟨b, hb, e⟩
          have hb1 : m ∈ msA (msOf Y) a := by unfold msA; split <;> simp [this]
          rw [← hmm, h1] at hb1
          exact List.mem_append.1 hb1
        · simp at hb; subst hb; exact .inr (by simp [e])
/-- Keys that say their elements. -/
def KeyF (L : List T3) : Prop := ∀ x ∈ L, ∀ y ∈ L, x.1 = y.1 → x.2.1 = y.2.1 → x = y
theorem sortedT_uniq : ∀ {Y Z : List T3}, Y.Perm Z → Y.Pairwise (fun x y => ¬ tlt y x) → Z.Pairwise (fun x y => ¬ tlt y x) → KeyF Y → Y = Z
  | [], Z, hp, _, _, _ => by simpa using hp.symm
  | y :: Y, [], hp, _, _, _ => by simp at hp
  | y :: Y, z :: Z, hp, h1, h2, hk => by
    have e : y = z := by
      obtain ⟨a1, _⟩ := List.pairwise_cons.1 h1
      obtain ⟨b1, _⟩ := List.pairwise_cons.1 h2
      have hy : y ∈ z :: Z := hp.mem_iff.1 (by simp)
      have hz : z ∈ y :: Y := hp.mem_iff.2 (by simp)
      rcases List.mem_cons.1 hy with e | hy
      · exact e
      · rcases List.mem_cons.1 hz with e | hz2
        · exact e.symm
        · have c1 := a1 z hz2
          have c2 := b1 y hy
          unfold tlt at c1 c2
          exact hk y (by simp) z hz (by omega) (by omega)
    subst e
    rw [sortedT_uniq (List.perm_cons _ |>.1 hp) (List.pairwise_cons.1 h1).2 (List.pairwise_cons.1 h2).2 (fun a ha b hb => hk a (by simp [ha]) b (by simp [hb]))]
theorem addN_mem (n : T3) (l : List T3) (e : T3) : e ∈ addN n l ↔ e ∈ l ∨ e = n := by
  unfold addN
  split
  · rename_i h
    constructor
    · exact .inl
    · rintro (h1 | rfl)
      · exact h1
      · exact h
  · simp
theorem scs_mem (t : Tr) (m : Int) (e : T3) : ∀ (l : List T3) (acc : List T3), e ∈ l.foldl (scS t m) acc ↔ e ∈ acc ∨ ∃ x ∈ l, e = scN t m x
  | [], acc => by simp
  | x :: r, acc => by
    rw [List.foldl_cons, scs_mem t m e r]
    unfold scS
    rw [addN_mem]
    simp [or_assoc]
theorem scOf_mem (t : Tr) (Y : List Ans) (m : Int) (e : T3) : e ∈ scOf t Y m ↔ ∃ a ∈ Y, a.m = m ∧ ∃ x ∈ a.ins, e = scN t m x := by
  induction Y using snoc_ind with
  | h0 => simp [scOf]
  | hs Y a ih =>
    have : scOf t (Y ++ [a]) m = scA t m (scOf t Y m) a := by unfold scOf; rw [List.foldl_append]; rfl
    rw [this]
    unfold scA
    split
    · rename_i hm
      rw [scs_mem, ih]
      constructor
      · rintro (⟨b, hb, h⟩ | h)
        · exact ⟨b, by simp [hb], h⟩
        · exact ⟨a, by simp, hm, h⟩
      · rintro ⟨b, hb, h⟩
        rcases List.mem_append.1 hb with hb | hb
        · exact .inl ⟨b, hb, h⟩
        · simp at hb; subst hb; exact .inr h.2
    · rename_i hm
      rw [ih]
      constructor
      · rintro ⟨b, hb, h⟩
        exact ⟨b, by simp [hb], h⟩
      · rintro ⟨b, hb, h⟩
        rcases List.mem_append.1 hb with hb | hb
        · exact ⟨b, hb, h⟩
        · simp at hb; subst hb; exact absurd h.1 hm
theorem stOf_mem (O : List (Qn × Int)) (Y : List Ans) (m : Int) (e : T3) : e ∈ stOf O Y m ↔ ∃ a ∈ Y, a.m = m ∧ ∃ o, MapS.get (a.ow, m, a.n) O = some o ∧ e = (a.ow, a.n, o) := by
  unfold stOf
  rw [List.mem_filterMap]
  constructor
  · rintro ⟨a, ha, h⟩
    unfold stA at h
    split at h
    · rename_i hm
      obtain ⟨o, h1, h2⟩ := Option.map_eq_some_iff.1 h
      rw [hm] at h1
      exact ⟨a, ha, hm, o, h1, h2.symm⟩
    · cases h
  · rintro ⟨a, ha, hm, o, h1, rfl⟩
    refine ⟨a, ha, ?_⟩
    unfold stA
    rw [if_pos hm, hm, h1]; rfl
theorem chOf_mem (O : List (Qn × Int)) (Y : List Ans) (m : Int) (e : T3) : e ∈ chOf O Y m ↔ ∃ a ∈ Y, a.m = m ∧ MapS.get (a.ow, m, a.n) O = none ∧ e = (a.ow, a.n, 0) := by
  unfold chOf
  rw [List.mem_filterMap]
  constructor
  · rintro ⟨a, ha, h⟩
    unfold chA at h
    split at h
    · rename_i hm
      obtain ⟨h1, h2⟩ := hm
      rw [h1] at h2
      simp at h
      exact ⟨a, ha, h1, h2, h.symm⟩
    · cases h
  · rintro ⟨a, ha, hm, h1, rfl⟩
    refine ⟨a, ha, ?_⟩
    unfold chA
    rw [if_pos ⟨hm, by rw [hm]; exact h1⟩]
theorem out_fold (m : Int) (k : Qn) : ∀ (l : List T3) (acc : List (Qn × Int)), (MapS.get k (l.foldl (outA m) acc)).isSome = true ↔ (MapS.get k acc).isSome = true ∨ ∃ x ∈ l, k = (m, x.1, x.2.1)
  | [], acc => by simp
  | x :: r, acc => by
    rw [List.foldl_cons, out_fold m k r]
    have : (MapS.get k (outA m acc x)).isSome = true ↔ (MapS.get k acc).isSome = true ∨ k = (m, x.1, x.2.1) := by
      unfold outA
      split
      · rename_i h
        constructor
        · exact .inl
        · rintro (h1 | rfl)
          · exact h1
          · exact h
      · rename_i h
        rw [MapS.get_append]
        by_cases e : k = (m, x.1, x.2.1)
        · subst e
          simp [MapS.get]
        · have e' : ¬ (m, x.1, x.2.1) = k := fun h => e h.symm
          simp [MapS.get, e, e']
    rw [this]
    simp [or_assoc]
theorem outsOf_some (Y : List Ans) (k : Qn) : (MapS.get k (outsOf Y)).isSome = true ↔ ∃ a ∈ Y, ∃ x ∈ a.ins, k = (a.m, x.1, x.2.1) := by
  induction Y using snoc_ind with
  | h0 => simp [outsOf, MapS.get]
  | hs Y a ih =>
    have : outsOf (Y ++ [a]) = a.ins.foldl (outA a.m) (outsOf Y) := by unfold outsOf; rw [List.foldl_append]; rfl
    rw [this, out_fold, ih]
    constructor
    · rintro (⟨b, hb, h⟩ | h)
      · exact ⟨b, by simp [hb], h⟩
      · exact ⟨a, by simp, h⟩
    · rintro ⟨b, hb, h⟩
      rcases List.mem_append.1 hb with hb | hb
      · exact .inl ⟨b, hb, h⟩
      · simp at hb; subst hb; exact .inr h
/-- Answers of one machine have different owners or numbers. -/
theorem ans_uniq {Y : List Ans} (hs : Y.Pairwise (fun x y => qlt x.q y.q)) {a b : Ans} (ha : a ∈ Y) (hb : b ∈ Y) (h : a.q = b.q) : a = b := by
  induction hs with
  | nil => simp at ha
  | @cons y Y h1 _ ih =>
    rcases List.mem_cons.1 ha with ea | ha2
    · rcases List.mem_cons.1 hb with eb | hb2
      · rw [ea, eb]
      · have := h1 b hb2; rw [← ea, h] at this; exact absurd this (qlt_irrefl _)
    · rcases List.mem_cons.1 hb with eb | hb2
      · have := h1 a ha2; rw [← eb, h] at this; exact absurd this (qlt_irrefl _)
      · exact ih ha2 hb2
theorem clOf_key (t : Tr) (O : List (Qn × Int)) (Y : List Ans) (hs : Y.Pairwise (fun x y => qlt x.q y.q)) (m : Int) : ∀ j, j < 3 → KeyF ((clOf t O Y m).at j) := by
  intro j hj
  match j, hj with
  | 0, _ =>
    intro x hx y hy h1 h2
    obtain ⟨a, ha, hm, o, g1, rfl⟩ := (stOf_mem _ _ _ _).1 hx
    obtain ⟨b, hb, hm2, o2, g2, rfl⟩ := (stOf_mem _ _ _ _).1 hy
    have : a = b := ans_uniq hs ha hb (by simp only [Ans.q]; rw [hm, hm2, show a.ow = b.ow from h1, show a.n = b.n from h2])
    subst this
    rw [g1] at g2; cases g2; rfl
  | 1, _ =>
    intro x hx y hy h1 h2
    obtain ⟨a, ha, hm, u, hu, rfl⟩ := (scOf_mem _ _ _ _).1 hx
    obtain ⟨b, hb, hm2, v, hv, rfl⟩ := (scOf_mem _ _ _ _).1 hy
    simp only [scN] at h1 h2 ⊢
    rw [h1, h2]
  | 2, _ =>
    intro x hx y hy h1 h2
    obtain ⟨a, ha, hm, g1, rfl⟩ := (chOf_mem _ _ _ _).1 hx
    obtain ⟨b, hb, hm2, g2, rfl⟩ := (chOf_mem _ _ _ _).1 hy
    simp only at h1 h2 ⊢
    rw [h1, h2]
/-- The claims, each machine's own. -/
structure ClmAt (t : Tr) (Y : List Ans) (p : PCl) (mm : Int) : Prop where
  m : p.m = mm
  ep : p.ep = epOf Y mm
  at' : ∀ j, j < 3 → (p.at j).Perm ((clOf t (outsOf Y) Y mm).at j) ∧ (p.at j).Pairwise (fun x y => ¬ tlt y x)
theorem ClaimsP.at' {t : Tr} {Y : List Ans} {P : List PCl} (hs : Y.Pairwise (fun x y => qlt x.q y.q)) (h : ClaimsP t Y P) :
    P.length = (msOf Y).length ∧ ∀ (k : Nat) (h1 : k < P.length) (h2 : k < (msOf Y).length), ClmAt t Y P[k] (msOf Y)[k] := by
  obtain ⟨e1, _, _⟩ := rawOf_eq t (outsOf Y) Y hs
  unfold ClaimsP at h
  rw [e1] at h
  obtain ⟨h1, h2⟩ := h
  rw [List.length_map] at h1
  refine ⟨h1, fun k k1 k2 => ?_⟩
  obtain ⟨a1, a2, a3⟩ := h2 k k1 (by rw [List.length_map]; exact k2)
  simp only [List.getElem_map] at a1 a2 a3
  exact ⟨a1, a2, a3⟩
theorem ClaimsP.of_at {t : Tr} {Y : List Ans} {P : List PCl} (hs : Y.Pairwise (fun x y => qlt x.q y.q)) (h1 : P.length = (msOf Y).length) (h2 : ∀ (k : Nat) (h1 : k < P.length) (h2 : k < (msOf Y).length), ClmAt t Y P[k] (msOf Y)[k]) : ClaimsP t Y P := by
  obtain ⟨e1, _, _⟩ := rawOf_eq t (outsOf Y) Y hs
  unfold ClaimsP
  rw [e1]
  refine ⟨by rw [List.length_map]; exact h1, fun k k1 k2 => ?_⟩
  rw [List.length_map] at k2
  obtain ⟨a1, a2, a3⟩ := h2 k k1 k2
  simp only [List.getElem_map]
  exact ⟨a1, a2, a3⟩
theorem pcl_ext {p q : PCl} (h1 : p.m = q.m) (h2 : p.ep = q.ep) (h3 : ∀ j, j < 3 → p.at j = q.at j) : p = q := by
  obtain ⟨a, b, c, d, e⟩ := p
  obtain ⟨a', b', c', d', e'⟩ := q
  have e0 := h3 0 (by omega)
  have e1 := h3 1 (by omega)
  have e2 := h3 2 (by omega)
  simp only [PCl.at] at h1 h2 e0 e1 e2
  subst h1 h2 e0 e1 e2
  rfl
theorem KeyF.perm {L M : List T3} (h : KeyF L) (hp : M.Perm L) : KeyF M := fun x hx y hy => h x (hp.mem_iff.1 hx) y (hp.mem_iff.1 hy)
theorem ClmAt.uniq {t : Tr} {Y : List Ans} {p q : PCl} {m : Int} (hs : Y.Pairwise (fun x y => qlt x.q y.q)) (h : ClmAt t Y p m) (g : ClmAt t Y q m) : p = q :=
  pcl_ext (h.m.trans g.m.symm) (h.ep.trans g.ep.symm) (fun j hj => by
    obtain ⟨a1, a2⟩ := h.at' j hj
    obtain ⟨b1, b2⟩ := g.at' j hj
    exact sortedT_uniq (a1.trans b1.symm) a2 b2 ((clOf_key t _ Y hs m j hj).perm a1))
theorem ClaimsP.uniq {t : Tr} {Y : List Ans} {P Q : List PCl} (hs : Y.Pairwise (fun x y => qlt x.q y.q)) (h : ClaimsP t Y P) (g : ClaimsP t Y Q) : P = Q := by
  obtain ⟨h1, h2⟩ := h.at' hs
  obtain ⟨g1, g2⟩ := g.at' hs
  exact List.ext_getElem (h1.trans g1.symm) (fun k k1 k2 => (h2 k k1 (by omega)).uniq hs (g2 k k2 (by omega)))
theorem rawOf_congr {t u : Tr} (h : luOf t = luOf u) (O : List (Qn × Int)) (Y : List Ans) : rawOf t O Y = rawOf u O Y := by
  have h1 : scC t = scC u := by funext m P x; unfold scC; rw [h]
  have h2 : rawC t = rawC u := by funext O P a; unfold rawC; rw [h1]
  unfold rawOf
  rw [h2]
theorem ClaimsP.congr {t u : Tr} {Y : List Ans} {P : List PCl} (h : luOf t = luOf u) (g : ClaimsP t Y P) : ClaimsP u Y P := by
  unfold ClaimsP at g ⊢
  rw [← rawOf_congr h]
  exact g
end Go.Proofs.Ytiplgpefapeapaa

namespace Go.Proofs.Ytiplgpefapeapaa
open Go.RowKit

/-- A need is put in its place, if there is none with its key. -/
def putN (n : T3) : List T3 → List T3
  | [] => [n]
  | x :: r => if tlt x n then x :: putN n r else if x.1 = n.1 ∧ x.2.1 = n.2.1 then x :: r else n :: x :: r
theorem putN_at (n : T3) : ∀ (l : List T3) (i : Nat), i ≤ l.length → (∀ j (hj : j < l.length), j < i → tlt l[j] n) → (∀ (hi : i < l.length), ¬ tlt l[i] n) →
    putN n l = if (∃ hi : i < l.length, l[i].1 = n.1 ∧ l[i].2.1 = n.2.1) then l else l.take i ++ n :: l.drop i
  | [], i, hi, _, _ => by
    have : i = 0 := by simpa using hi
    subst this
    simp [putN]
  | x :: r, 0, _, _, h2 => by
    have h0 := h2 (by simp)
    simp only [List.getElem_cons_zero] at h0
    simp only [putN, if_neg h0]
    simp
  | x :: r, i + 1, hi, h1, h2 => by
    have h0 := h1 0 (by simp) (by omega)
    simp only [List.getElem_cons_zero] at h0
    have ih := putN_at n r i (by simpa using hi) (fun j hj hji => by have := h1 (j + 1) (by simpa using hj) (by omega); simpa using this) (fun hi => by have := h2 (by simpa using hi); simpa using this)
    simp only [putN, if_pos h0, ih]
    by_cases e : ∃ hi : i < r.length, r[i].1 = n.1 ∧ r[i].2.1 = n.2.1
    · rw [if_pos e, if_pos]
      obtain ⟨e1, e2⟩ := e
      exact ⟨by simpa using e1, by simpa using e2⟩
    · rw [if_neg e, if_neg]
      · simp
      · rintro ⟨e1, e2⟩
        exact e ⟨by simpa using e1, by simpa using e2⟩
theorem putN_mem {n e : T3} : ∀ {l : List T3}, e ∈ putN n l → e ∈ l ∨ e = n
  | [], h => by simp [putN] at h; exact .inr h
  | x :: r, h => by
    unfold putN at h
    split at h
    · rcases List.mem_cons.1 h with rfl | h
      · exact .inl (by simp)
      · rcases putN_mem h with h | h
        · exact .inl (by simp [h])
        · exact .inr h
    · split at h
      · exact .inl h
      · rcases List.mem_cons.1 h with rfl | h
        · exact .inr rfl
        · exact .inl h
theorem tlt_trans {x y z : T3} : tlt x y → tlt y z → tlt x z := by unfold tlt; omega
theorem putN_sorted {n : T3} : ∀ {l : List T3}, l.Pairwise tlt → (putN n l).Pairwise tlt
  | [], _ => by simp [putN]
  | x :: r, h => by
    obtain ⟨h1, h2⟩ := List.pairwise_cons.1 h
    unfold putN
    split
    · rename_i hx
      refine List.pairwise_cons.2 ⟨fun e he => ?_, putN_sorted h2⟩
      rcases putN_mem he with he | rfl
      · exact h1 e he
      · exact hx
    · rename_i hx
      split
      · exact h
      · rename_i hk
        have hn : tlt n x := by unfold tlt at hx ⊢; omega
        refine List.pairwise_cons.2 ⟨fun e he => ?_, h⟩
        rcases List.mem_cons.1 he with rfl | he
        · exact hn
        · exact tlt_trans hn (h1 e he)
theorem putN_new {n : T3} : ∀ {l : List T3}, (∀ x ∈ l, ¬ (x.1 = n.1 ∧ x.2.1 = n.2.1)) → (putN n l).Perm (n :: l)
  | [], _ => by simp [putN]
  | x :: r, h => by
    unfold putN
    split
    · exact ((putN_new (fun y hy => h y (by simp [hy]))).cons x).trans (List.Perm.swap _ _ _)
    · rw [if_neg (h x (by simp))]
theorem putN_old {n : T3} : ∀ {l : List T3}, l.Pairwise tlt → (∃ x ∈ l, x.1 = n.1 ∧ x.2.1 = n.2.1) → putN n l = l
  | [], _, h => by simp at h
  | x :: r, hs, h => by
    obtain ⟨h1, h2⟩ := List.pairwise_cons.1 hs
    unfold putN
    obtain ⟨y, hy, hk⟩ := h
    rcases List.mem_cons.1 hy with rfl | hy
    · rw [if_neg (by unfold tlt; omega), if_pos hk]
    · have hxy := h1 y hy
      rw [if_pos (by unfold tlt at *; omega), putN_old h2 ⟨y, hy, hk⟩]
/-- An answer is put in its place. -/
def insA (a : Ans) : List Ans → List Ans
  | [] => [a]
  | x :: r => if qlt x.q a.q then x :: insA a r else a :: x :: r
theorem insA_at (a : Ans) : ∀ (l : List Ans) (i : Nat), i ≤ l.length → (∀ j (hj : j < l.length), j < i → qlt l[j].q a.q) → (∀ (hi : i < l.length), ¬ qlt l[i].q a.q) → insA a l = l.take i ++ a :: l.drop i
  | [], i, hi, _, _ => by
    have : i = 0 := by simpa using hi
    subst this
    simp [insA]
  | x :: r, 0, _, _, h2 => by
    have h0 := h2 (by simp)
    simp only [List.getElem_cons_zero] at h0
    simp only [insA, if_neg h0]
    simp
  | x :: r, i + 1, hi, h1, h2 => by
    have h0 := h1 0 (by simp) (by omega)
    simp only [List.getElem_cons_zero] at h0
    have ih := insA_at a r i (by simpa using hi) (fun j hj hji => by have := h1 (j + 1) (by simpa using hj) (by omega); simpa using this) (fun hi => by have := h2 (by simpa using hi); simpa using this)
    simp only [insA, if_pos h0, ih]
    simp
theorem insA_perm (a : Ans) : ∀ l : List Ans, (insA a l).Perm (a :: l)
  | [] => by simp [insA]
  | x :: r => by
    unfold insA
    split
    · exact ((insA_perm a r).cons x).trans (List.Perm.swap _ _ _)
    · exact List.Perm.refl _
theorem insA_sorted {a : Ans} : ∀ {l : List Ans}, l.Pairwise (fun x y => qlt x.q y.q) → (∀ x ∈ l, x.q ≠ a.q) → (insA a l).Pairwise (fun x y => qlt x.q y.q)
  | [], _, _ => by simp [insA]
  | x :: r, h, hn => by
    obtain ⟨h1, h2⟩ := List.pairwise_cons.1 h
    unfold insA
    split
    · rename_i hx
      refine List.pairwise_cons.2 ⟨fun e he => ?_, insA_sorted h2 (fun y hy => hn y (by simp [hy]))⟩
      rcases List.mem_cons.1 ((insA_perm a r).mem_iff.1 he) with rfl | he
      · exact hx
      · exact h1 e he
    · rename_i hx
      have hax : qlt a.q x.q := by
        by_cases e : qlt a.q x.q
        · exact e
        · exact absurd (qlt_total hx e) (hn x (by simp))
      refine List.pairwise_cons.2 ⟨fun e he => ?_, h⟩
      rcases List.mem_cons.1 he with rfl | he
      · exact hax
      · exact qlt_trans hax (h1 e he)
/-- The answers of the questions, in the order of the questions, put in their places. -/
def insO (l : List Ans) (p : Qn × Option Ans) : List Ans := match p.2 with
  | some a => insA a l
  | none => l
def srtOf (qs : Qs) : List Ans := qs.foldl insO []
theorem rec_vals : ∀ qs : Qs, (recOf qs).map (·.2) = qs.filterMap (·.2)
  | [] => rfl
  | (x, none) :: r => by rw [recOf_none, rec_vals r]; rfl
  | (x, some a) :: r => by rw [recOf_some, List.map_cons, rec_vals r]; rfl
theorem srt_fold : ∀ (qs : Qs) (l : List Ans), (qs.foldl insO l).Perm (l ++ qs.filterMap (·.2))
  | [], l => by simp
  | (x, none) :: r, l => by
    rw [List.foldl_cons]
    exact (srt_fold r l).trans (by simp)
  | (x, some a) :: r, l => by
    rw [List.foldl_cons]
    refine (srt_fold r (insA a l)).trans ?_
    rw [show List.filterMap (fun x : Qn × Option Ans => x.2) ((x, some a) :: r) = a :: List.filterMap (fun x => x.2) r from rfl]
    exact ((insA_perm a l).append_right _).trans List.perm_middle.symm
theorem srt_sorted : ∀ (qs : Qs) (l : List Ans), l.Pairwise (fun x y => qlt x.q y.q) → ((l ++ qs.filterMap (·.2)).map Ans.q).Nodup → (qs.foldl insO l).Pairwise (fun x y => qlt x.q y.q)
  | [], l, h, _ => h
  | (x, none) :: r, l, h, hn => by
    rw [List.foldl_cons]
    exact srt_sorted r l h (by simpa using hn)
  | (x, some a) :: r, l, h, hn => by
    rw [List.foldl_cons]
    rw [show List.filterMap (fun x : Qn × Option Ans => x.2) ((x, some a) :: r) = a :: List.filterMap (fun x => x.2) r from rfl] at hn
    refine srt_sorted r (insA a l) (insA_sorted h (fun y hy e => ?_)) ?_
    · rw [List.map_append, List.nodup_append] at hn
      exact hn.2.2 y.q (List.mem_map.2 ⟨y, hy, rfl⟩) a.q (by simp) e
    · exact (((insA_perm a l).append_right _).trans List.perm_middle.symm |>.map Ans.q).nodup_iff.2 hn
theorem srtOf_sorted {t : Tr} (h : t.Inv) : SortedA t (srtOf t.qs) := by
  have hv : t.rec'.map (·.2) = t.qs.filterMap (·.2) := rec_vals t.qs
  refine ⟨?_, srt_sorted _ _ List.Pairwise.nil ?_⟩
  · rw [hv]
    have := srt_fold t.qs []
    rw [List.nil_append] at this
    exact this
  · rw [List.nil_append, ← hv, List.map_map]
    have e : t.rec'.map (Ans.q ∘ (·.2)) = t.rec'.map (·.1) := List.map_congr_left (fun p hp => h.rq p hp)
    rw [e]
    exact recOf_nd h.nd
/-- One answer's needs, as the specification notes them. -/
def stR (O : List (Qn × Int)) (a : Ans) (l : List T3) : List T3 := match MapS.get (a.ow, a.m, a.n) O with
  | some o => putN (a.ow, a.n, o) l
  | none => l
def chR (O : List (Qn × Int)) (a : Ans) (l : List T3) : List T3 := match MapS.get (a.ow, a.m, a.n) O with
  | some _ => l
  | none => putN (a.ow, a.n, 0) l
def scR (t : Tr) (m : Int) (l : List T3) (x : T3) : List T3 := putN (scN t m x) l
def refA (t : Tr) (O : List (Qn × Int)) (c : PCl) (a : Ans) : PCl := ⟨c.m, c.ep, stR O a c.st, a.ins.foldl (scR t a.m) c.sc, chR O a c.ch⟩
def refC (t : Tr) (O : List (Qn × Int)) (P : List PCl) (a : Ans) : List PCl := let Q := openC P a; match Q[Q.length - 1]? with
  | some c => Q.take (Q.length - 1) ++ [refA t O c a]
  | none => Q
def refOf (t : Tr) (O : List (Qn × Int)) (Y : List Ans) : List PCl := Y.foldl (refC t O) []
theorem refC_at {t : Tr} {O : List (Qn × Int)} {P R : List PCl} {a : Ans} {c : PCl} (h : openC P a = R ++ [c]) : refC t O P a = R ++ [refA t O c a] := by
  unfold refC
  rw [h]
  simp
/-- Both ways of noting, side by side. -/
structure RC1 (t : Tr) (Z : List Ans) (p p' : PCl) : Prop where
  m : p'.m = p.m
  ep : p'.ep = p.ep
  perm : ∀ j, j < 3 → (p'.at j).Perm (p.at j)
  srt : ∀ j, j < 3 → (p'.at j).Pairwise tlt
  lu : ∀ e ∈ p.sc, e.2.2 = luOf t (e.1, p.m, e.2.1)
  st : ∀ e ∈ p.st, ∃ b ∈ Z, b.m = p.m ∧ b.ow = e.1 ∧ b.n = e.2.1
  ch : ∀ e ∈ p.ch, ∃ b ∈ Z, b.m = p.m ∧ b.ow = e.1 ∧ b.n = e.2.1
structure RC (t : Tr) (Z : List Ans) (P P' : List PCl) : Prop where
  len : P'.length = P.length
  at' : ∀ k (h1 : k < P'.length) (h2 : k < P.length), RC1 t Z P[k] P'[k]
theorem RC1.mono {t : Tr} {Z Z' : List Ans} {p p' : PCl} (h : RC1 t Z p p') (hz : ∀ b ∈ Z, b ∈ Z') : RC1 t Z' p p' :=
  ⟨h.m, h.ep, h.perm, h.srt, h.lu, fun e he => by obtain ⟨b, hb, r⟩ := h.st e he; exact ⟨b, hz b hb, r⟩, fun e he => by obtain ⟨b, hb, r⟩ := h.ch e he; exact ⟨b, hz b hb, r⟩⟩
theorem RC.mono {t : Tr} {Z Z' : List Ans} {P P' : List PCl} (h : RC t Z P P') (hz : ∀ b ∈ Z, b ∈ Z') : RC t Z' P P' := ⟨h.len, fun k h1 h2 => (h.at' k h1 h2).mono hz⟩
theorem RC.snoc {t : Tr} {Z : List Ans} {P P' : List PCl} {c c' : PCl} (h : RC t Z P P') (hc : RC1 t Z c c') : RC t Z (P ++ [c]) (P' ++ [c']) := by
  refine ⟨by simp [h.len], fun k h1 h2 => ?_⟩
  have hl := h.len
  by_cases e : k < P.length
  · rw [List.getElem_append_left e, List.getElem_append_left (by omega)]
    exact h.at' k (by omega) e
  · have h3 : k = P.length := by simp at h2; omega
    subst h3
    rw [List.getElem_append_right (by omega), List.getElem_append_right (by omega)]
    simpa [hl] using hc
theorem RC.split {t : Tr} {Z : List Ans} {P P' : List PCl} {c c' : PCl} (h : RC t Z (P ++ [c]) (P' ++ [c'])) : RC t Z P P' ∧ RC1 t Z c c' := by
  have hl : P'.length = P.length := by have := h.len; simpa using this
  refine ⟨⟨hl, fun k h1 h2 => ?_⟩, ?_⟩
  · have := h.at' k (by simp; omega) (by simp; omega)
    rw [List.getElem_append_left h2, List.getElem_append_left h1] at this
    exact this
  · have := h.at' P.length (by simp; omega) (by simp)
    rw [List.getElem_append_right (by omega), List.getElem_append_right (by omega)] at this
    simpa [hl] using this
theorem RC.open {t : Tr} {Z : List Ans} {P P' : List PCl} (h : RC t Z P P') (a : Ans) : ∃ R R' c c', openC P a = R ++ [c] ∧ openC P' a = R' ++ [c'] ∧ RC t Z R R' ∧ RC1 t Z c c' ∧ c.m = a.m := by
  have hnew : RC1 t Z ⟨a.m, a.ep, [], [], []⟩ ⟨a.m, a.ep, [], [], []⟩ := ⟨rfl, rfl, fun j hj => List.Perm.refl _, fun j hj => by unfold PCl.at; split <;> exact List.Pairwise.nil, by simp, by simp, by simp⟩
  rcases nil_or_snoc P with rfl | ⟨R, c, rfl⟩
  · have : P' = [] := List.length_eq_zero_iff.1 (by have := h.len; simpa using this)
    subst this
    exact ⟨[], [], _, _, rfl, rfl, h, hnew, rfl⟩
  · rcases nil_or_snoc P' with rfl | ⟨R', c', rfl⟩
    · have := h.len; simp at this
    · obtain ⟨hR, hc⟩ := h.split
      rw [openC_snoc, openC_snoc, hc.m]
      split
      · rename_i e
        exact ⟨R, R', c, c', rfl, rfl, hR, hc, e⟩
      · exact ⟨R ++ [c], R' ++ [c'], _, _, rfl, rfl, h, hnew, rfl⟩
theorem sc_both (t : Tr) (m : Int) : ∀ (l : List T3) (x y : List T3), y.Perm x → y.Pairwise tlt → (∀ e ∈ x, e.2.2 = luOf t (e.1, m, e.2.1)) →
    (l.foldl (scR t m) y).Perm (l.foldl (scS t m) x) ∧ (l.foldl (scR t m) y).Pairwise tlt ∧ ∀ e ∈ l.foldl (scS t m) x, e.2.2 = luOf t (e.1, m, e.2.1)
  | [], x, y, h1, h2, h3 => ⟨h1, h2, h3⟩
  | u :: r, x, y, h1, h2, h3 => by
    rw [List.foldl_cons, List.foldl_cons]
    have hn : (scN t m u).2.2 = luOf t ((scN t m u).1, m, (scN t m u).2.1) := rfl
    refine sc_both t m r _ _ ?_ (putN_sorted h2) (fun e he => ?_)
    · unfold scR scS addN
      by_cases hm : scN t m u ∈ x
      · rw [if_pos hm, putN_old h2 ⟨_, h1.mem_iff.2 hm, rfl, rfl⟩]
        exact h1
      · rw [if_neg hm]
        refine (putN_new (fun e he hk => ?_)).trans ((h1.cons _).trans (List.perm_append_singleton _ _).symm)
        have hex := h1.mem_iff.1 he
        have := h3 e hex
        have e2 : e = scN t m u := by
          obtain ⟨e0, e1, e2⟩ := e
          obtain ⟨k1, k2⟩ := hk
          simp only at this k1 k2
          rw [k1, k2] at this
          rw [Prod.mk.injEq, Prod.mk.injEq] 
          exact ⟨k1, k2, this⟩
        rw [e2] at hex
        exact hm hex
    · unfold scS at he
      rcases (addN_mem _ _ _).1 he with he | rfl
      · exact h3 e he
      · exact hn
theorem RC1.step {t : Tr} {O : List (Qn × Int)} {Z : List Ans} {c c' : PCl} {a : Ans} (h : RC1 t Z c c') (hm : c.m = a.m) (hZ : ∀ b ∈ Z, b.q ≠ a.q) {d : PCl}
    (hd : d = (match MapS.get (a.ow, a.m, a.n) O with
      | some o => c.upd 0 (c.st ++ [(a.ow, a.n, o)])
      | none => c.upd 2 (c.ch ++ [(a.ow, a.n, 0)]) : PCl).upd 1 (a.ins.foldl (scS t a.m) c.sc)) : RC1 t (Z ++ [a]) d (refA t O c' a) := by
  obtain ⟨s1, s2, s3⟩ := sc_both t a.m a.ins c.sc c'.sc (h.perm 1 (by omega)) (h.srt 1 (by omega)) (by rw [← hm]; exact h.lu)
  have hst : ∀ {l l' : List T3} {n : T3}, l'.Perm l → l'.Pairwise tlt → (∀ e ∈ l, ∃ b ∈ Z, b.m = c.m ∧ b.ow = e.1 ∧ b.n = e.2.1) → n.1 = a.ow → n.2.1 = a.n → (putN n l').Perm (l ++ [n]) ∧ (putN n l').Pairwise tlt := by
    intro l l' n hp hs hb h1 h2
    refine ⟨(putN_new (fun e he hk => ?_)).trans ((hp.cons _).trans (List.perm_append_singleton _ _).symm), putN_sorted hs⟩
    obtain ⟨b, hbz, b1, b2, b3⟩ := hb e (hp.mem_iff.1 he)
    exact hZ b hbz (by unfold Ans.q; rw [b1, hm, b2, b3, hk.1, hk.2, h1, h2])
  cases hg : MapS.get (a.ow, a.m, a.n) O with
  | some o =>
    rw [hg] at hd
    obtain ⟨q1, q2⟩ := hst (n := (a.ow, a.n, o)) (h.perm 0 (by omega)) (h.srt 0 (by omega)) h.st rfl rfl
    subst hd
    refine ⟨h.m, h.ep, fun j hj => ?_, fun j hj => ?_, ?_, fun e he => ?_, fun e he => ?_⟩
    · match j, hj with
      | 0, _ => simp only [refA, stR, hg]; exact q1
      | 1, _ => exact s1
      | 2, _ => simp only [refA, chR, hg]; exact h.perm 2 (by omega)
    · match j, hj with
      | 0, _ => simp only [refA, stR, hg]; exact q2
      | 1, _ => exact s2
      | 2, _ => simp only [refA, chR, hg]; exact h.srt 2 (by omega)
    · intro e he
      have := s3 e he
      rw [← hm] at this; exact this
    · have he' : e ∈ c.st ++ [(a.ow, a.n, o)] := he
      rcases List.mem_append.1 he' with he | he
      · obtain ⟨b, hb, r⟩ := h.st e he; exact ⟨b, by simp [hb], r⟩
      · simp at he; subst he; exact ⟨a, by simp, hm.symm, rfl, rfl⟩
    · obtain ⟨b, hb, r⟩ := h.ch e he; exact ⟨b, by simp [hb], r⟩
  | none =>
    rw [hg] at hd
    obtain ⟨q1, q2⟩ := hst (n := (a.ow, a.n, 0)) (h.perm 2 (by omega)) (h.srt 2 (by omega)) h.ch rfl rfl
    subst hd
    refine ⟨h.m, h.ep, fun j hj => ?_, fun j hj => ?_, ?_, fun e he => ?_, fun e he => ?_⟩
    · match j, hj with
      | 0, _ => simp only [refA, stR, hg]; exact h.perm 0 (by omega)
      | 1, _ => exact s1
      | 2, _ => simp only [refA, chR, hg]; exact q1
    · match j, hj with
      | 0, _ => simp only [refA, stR, hg]; exact h.srt 0 (by omega)
      | 1, _ => exact s2
      | 2, _ => simp only [refA, chR, hg]; exact q2
    · intro e he
      have := s3 e he
      rw [← hm] at this; exact this
    · obtain ⟨b, hb, r⟩ := h.st e he; exact ⟨b, by simp [hb], r⟩
    · have he' : e ∈ c.ch ++ [(a.ow, a.n, 0)] := he
      rcases List.mem_append.1 he' with he | he
      · obtain ⟨b, hb, r⟩ := h.ch e he; exact ⟨b, by simp [hb], r⟩
      · simp at he; subst he; exact ⟨a, by simp, hm.symm, rfl, rfl⟩
theorem RC.step {t : Tr} {O : List (Qn × Int)} {Z : List Ans} {P P' : List PCl} {a : Ans} (h : RC t Z P P') (hZ : ∀ b ∈ Z, b.q ≠ a.q) : RC t (Z ++ [a]) (rawC t O P a) (refC t O P' a) := by
  obtain ⟨R, R', c, c', h1, h2, h3, h4, h5⟩ := h.open a
  rw [refC_at h2]
  have hr : rawC t O P a = R ++ [(match MapS.get (a.ow, a.m, a.n) O with
      | some o => c.upd 0 (c.st ++ [(a.ow, a.n, o)])
      | none => c.upd 2 (c.ch ++ [(a.ow, a.n, 0)]) : PCl).upd 1 (a.ins.foldl (scS t a.m) c.sc)] := by
    unfold rawC needC
    rw [h1]
    cases hg : MapS.get (a.ow, a.m, a.n) O with
    | some o => simp only; rw [updL_snoc, sc_fold_snoc]; rfl
    | none => simp only; rw [updL_snoc, sc_fold_snoc]; rfl
  rw [hr]
  exact (h3.mono (fun b hb => by simp [hb])).snoc (h4.step h5 hZ rfl)
theorem refOf_rc (t : Tr) (O : List (Qn × Int)) (Y : List Ans) : Y.Pairwise (fun x y => qlt x.q y.q) → RC t Y (rawOf t O Y) (refOf t O Y) := by
  induction Y using snoc_ind with
  | h0 => exact fun _ => ⟨rfl, fun k h1 => by simp [refOf] at h1⟩
  | hs Y a ih =>
    intro hs
    obtain ⟨h1, _, h2⟩ := List.pairwise_append.1 hs
    have e1 : rawOf t O (Y ++ [a]) = rawC t O (rawOf t O Y) a := by unfold rawOf; rw [List.foldl_append]; rfl
    have e2 : refOf t O (Y ++ [a]) = refC t O (refOf t O Y) a := by unfold refOf; rw [List.foldl_append]; rfl
    rw [e1, e2]
    exact (ih h1).step (fun b hb e => by have := h2 b hb a (by simp); rw [e] at this; exact qlt_irrefl _ this)
/-- The specification's claims are the claims. -/
theorem refOf_claims {t : Tr} {Y : List Ans} (h : Y.Pairwise (fun x y => qlt x.q y.q)) : ClaimsP t Y (refOf t (outsOf Y) Y) := by
  have hr := refOf_rc t (outsOf Y) Y h
  refine ⟨hr.len, fun k h1 h2 => ?_⟩
  have := hr.at' k h1 h2
  exact ⟨this.m, this.ep, fun j hj => ⟨this.perm j hj, (this.srt j hj).imp (fun h => by unfold tlt at *; omega)⟩⟩
/-- What a scan for a scion finds. -/
def outL (Y : List Ans) (k : Qn) : Option Int := (Y.findSome? (fun a => a.ins.findSome? (fun x => if a.m = k.1 ∧ x.1 = k.2.1 ∧ x.2.1 = k.2.2 then some x.2.2 else none)))
theorem out_fold_get (m : Int) (k : Qn) : ∀ (l : List T3) (acc : List (Qn × Int)), MapS.get k (l.foldl (outA m) acc) = (MapS.get k acc).or (l.findSome? (fun x => if m = k.1 ∧ x.1 = k.2.1 ∧ x.2.1 = k.2.2 then some x.2.2 else none))
  | [], acc => by simp
  | x :: r, acc => by
    rw [List.foldl_cons, out_fold_get m k r, List.findSome?_cons]
    obtain ⟨k0, k1, k2⟩ := k
    unfold outA
    by_cases e : m = k0 ∧ x.1 = k1 ∧ x.2.1 = k2
    · obtain ⟨rfl, rfl, rfl⟩ := e
      simp only [and_self, if_true]
      cases hg : MapS.get (m, x.1, x.2.1) acc with
      | some o => simp [hg]
      | none => simp [hg, MapS.get_append, MapS.get]
    · simp only [if_neg e]
      split
      · rfl
      · rw [MapS.get_append]
        have e' : ¬ ((m, x.1, x.2.1) : Qn) = (k0, k1, k2) := fun h => e (by simpa using h)
        simp [MapS.get, e']
theorem outsOf_get (Y : List Ans) (k : Qn) : MapS.get k (outsOf Y) = outL Y k := by
  induction Y using snoc_ind with
  | h0 => rfl
  | hs Y a ih =>
    have : outsOf (Y ++ [a]) = a.ins.foldl (outA a.m) (outsOf Y) := by unfold outsOf; rw [List.foldl_append]; rfl
    rw [this, out_fold_get, ih]
    unfold outL
    rw [List.findSome?_append]
    congr 1
    simp
/-- What a scan for an answer finds. -/
def luL (Y : List Ans) (q : Qn) : Int := ((Y.find? (fun a => decide (a.q = q))).map Ans.lu).getD 0
theorem luL_eq {t : Tr} (h : t.Inv) {Y : List Ans} (hY : SortedA t Y) (q : Qn) : luL Y q = luOf t q := by
  unfold luL luOf
  congr 1
  cases hf : Y.find? (fun a => decide (a.q = q)) with
  | some a =>
    have e1 : a.q = q := by simpa using List.find?_some hf
    obtain ⟨p, hp, e2⟩ := List.mem_map.1 (hY.1.mem_iff.1 (List.mem_of_find?_eq_some hf))
    have e3 := h.rq p hp
    obtain ⟨k, b⟩ := p
    simp only at e2 e3
    subst e2
    rw [e1] at e3
    subst e3
    rw [show MapS.get q t.rec' = some b from (MapS.get_iff (recOf_nd h.nd)).2 hp]
  | none =>
    have hn := List.find?_eq_none.1 hf
    cases hg : MapS.get q t.rec' with
    | none => rfl
    | some a =>
      have hp := (MapS.get_iff (recOf_nd h.nd)).1 hg
      have e3 := h.rq _ hp
      have := hn a (hY.1.mem_iff.2 (List.mem_map.2 ⟨_, hp, rfl⟩))
      simp only at e3
      simp [e3] at this
end Go.Proofs.Ytiplgpefapeapaa
