/- Texts that the laws lean on, in the order in which they build. A trace in memory. Answering a trace: the plain function and its laws. New, ID, Start, State, Agreed; a copy of an answer. Whether a list of answers holds one of a machine with another epoch. What writing a trace's blocks leaves. Trace.Answer. Trace.Queries. An iteration over a map with keys of any kind: what keeps it. -/
import Derived.Test.YtiplgpefapeapaaGreatT2
import Derived.Laws.Rows
set_option linter.unusedVariables false
set_option linter.unusedSimpArgs false
namespace Go.Proofs.YtiplgpefapeapaaGreat
open Go.RowKit

/-- An answer. -/
structure Ans where
  m : Int
  ow : Int
  n : Nat
  ep : Int
  kn : Bool
  rt : Bool
  lu : Int
  ins : List T3
  deriving DecidableEq
def Ans.q (x : Ans) : Qn := (x.m, x.ow, x.n)
def Ans.zero : Ans := ⟨0, 0, 0, 0, false, false, 0, []⟩
/-- The cells of an answer say this answer. -/
structure InA (w : World) (x : AnV) (y : Ans) : Prop where
  m : x.m = y.m
  ow : x.ow = y.ow
  n : x.n = y.n
  ep : x.ep = y.ep
  kn : x.kn = y.kn
  rt : x.rt = y.rt
  lu : x.lu = y.lu
  ins : InsO w x.v y.ins
theorem InA.ki {w w' : World} {x : AnV} {y : Ans} (h : InA w x y) (hk : KI w w') : InA w' x y := ⟨h.m, h.ow, h.n, h.ep, h.kn, h.rt, h.lu, h.ins.ki hk⟩
theorem InA.q {w : World} {x : AnV} {y : Ans} (h : InA w x y) : x.q = y.q := by unfold AnV.q Ans.q; rw [h.m, h.ow, h.n]
/-- The same of a list. -/
def LA (w : World) (X : List AnV) (Y : List Ans) : Prop := X.length = Y.length ∧ ∀ (k : Nat) (x : AnV) (y : Ans), X[k]? = some x → Y[k]? = some y → InA w x y
theorem LA.nil (w : World) : LA w [] [] := ⟨rfl, fun k x y h => by simp at h⟩
theorem LA.ki {w w' : World} {X : List AnV} {Y : List Ans} (h : LA w X Y) (hk : KI w w') : LA w' X Y := ⟨h.1, fun k x y h1 h2 => (h.2 k x y h1 h2).ki hk⟩
theorem LA.snoc {w : World} {X : List AnV} {Y : List Ans} {x : AnV} {y : Ans} (h : LA w X Y) (hx : InA w x y) : LA w (X ++ [x]) (Y ++ [y]) := by
  obtain ⟨h1, h2⟩ := h
  refine ⟨by simp [h1], fun k a b ha hb => ?_⟩
  rcases Nat.lt_trichotomy k X.length with hk | hk | hk
  · rw [List.getElem?_append_left hk] at ha
    rw [List.getElem?_append_left (by omega)] at hb
    exact h2 k a b ha hb
  · rw [List.getElem?_append_right (by omega)] at ha
    rw [List.getElem?_append_right (by omega)] at hb
    rw [show k - X.length = 0 by omega] at ha
    rw [show k - Y.length = 0 by omega] at hb
    simp at ha hb
    subst ha hb
    exact hx
  · rw [List.getElem?_append_right (by omega), List.getElem?_eq_none (by simp; omega)] at ha
    cases ha
theorem LA.get {w : World} {X : List AnV} {Y : List Ans} (h : LA w X Y) {k : Nat} (hk : k < Y.length) : ∃ hx : k < X.length, InA w X[k] Y[k] :=
  ⟨by rw [h.1]; exact hk, h.2 k _ _ (List.getElem?_eq_getElem _) (List.getElem?_eq_getElem _)⟩
/-- A trace. -/
structure Tr where
  im : Int
  is : Int
  st : T3
  qs : List (Qn × Option Ans)
  told : Int
  hist : List Ans
  state : Int
  ag : List Int
  rf : Bool
def Tr.op (t : Tr) : List Qn := t.qs.map (·.1)
def recOf (qs : List (Qn × Option Ans)) : List (Qn × Ans) := qs.filterMap (fun p => p.2.map (fun a => (p.1, a)))
def Tr.rec' (t : Tr) : List (Qn × Ans) := recOf t.qs
/-- The entries of the map of the answers. -/
def LR (w : World) (R : List (Qn × AnV)) (Y : List (Qn × Ans)) : Prop :=
  R.length = Y.length ∧ ∀ q, (MapS.get q R = none ∧ MapS.get q Y = none) ∨ ∃ x y, MapS.get q R = some x ∧ MapS.get q Y = some y ∧ InA w x y
theorem LR.ki {w w' : World} {R : List (Qn × AnV)} {Y : List (Qn × Ans)} (h : LR w R Y) (hk : KI w w') : LR w' R Y :=
  ⟨h.1, fun q => (h.2 q).imp id (fun ⟨x, y, h1, h2, h3⟩ => ⟨x, y, h1, h2, h3.ki hk⟩)⟩
/-- Numbers that fit. -/
structure Ans.Ok (a : Ans) : Prop where
  q : qOk a.q
  ep : W64 a.ep
  lu : W64 a.lu
  ins : ∀ x ∈ a.ins, W64 x.1 ∧ x.2.1 < 18446744073709551616 ∧ W64 x.2.2
  len : a.ins.length ≤ 100000
structure Tr.Inv (t : Tr) : Prop where
  ok : ∀ q ∈ t.op, qOk q
  nd : t.op.Nodup
  rq : ∀ p ∈ t.rec', p.2.q = p.1
  rk : ∀ p ∈ t.rec', p.2.kn = true
  hi : ∀ a ∈ t.hist, a.Ok
  ro : ∀ p ∈ t.rec', p.2.Ok
structure TrM (w : World) (B bt bm : Nat) (vo vh vg : Value) (t : Tr) : Prop where
  blk : w.heap[bt]? = some (.cells #[.int .i64 t.im, .int .i64 t.is, .int .i64 t.st.1, .int .u64 t.st.2.1, .int .i64 t.st.2.2, vo, .int .i64 t.told, .map (some bm), vh, .int .i64 t.state, vg, .bool t.rf] tT (0, 0))
  op : shQ.O w B tQ vo t.op
  hi : ∃ X, shA.O w B tA vh X ∧ LA w X t.hist
  ag : shZ.O w B 3 vg t.ag
  mp : ∃ R, MapS.M ktQ aV w bm R ∧ LR w R t.rec'
  inv : t.Inv
  bB : B ≤ bt ∧ B ≤ bm
/-- The blocks that a trace writes. -/
def ownT (bt bm : Nat) (vo vh vg : Value) : List Nat := bt :: bm :: (vo.ownBlock.toList ++ vh.ownBlock.toList ++ vg.ownBlock.toList)
theorem Sh.O.tag {α : Type} {s : Sh α} {w : World} {B e : Nat} {v : Value} {L : List α} (h : s.O w B e v L) : ∀ b, v.ownBlock = some b → ∃ (cs : Array Value), w.heap[b]? = some (Obj.cells cs e (0, 0)) := fun b hb => by
  rcases h.2 with ⟨rfl, _⟩ | ⟨g, cap, cur, rfl, _, hg, _⟩
  · simp [Value.ownBlock] at hb
  · simp [Value.ownBlock] at hb; subst hb; exact ⟨_, hg⟩
/-- Blocks of different types are different. -/
theorem tag_ne {w : World} {b b' : Nat} {cs cs' : Array Value} {t t' : TypeId} {f f' : Nat × Nat} (h : w.heap[b]? = some (.cells cs t f)) (h' : w.heap[b']? = some (.cells cs' t' f')) (hne : t ≠ t') : b ≠ b' := fun e => by
  subst e; rw [h] at h'; cases h'; exact hne rfl
theorem mem_ownT {bt bm : Nat} {vo vh vg : Value} {b : Nat} : b ∈ ownT bt bm vo vh vg ↔ b = bt ∨ b = bm ∨ vo.ownBlock = some b ∨ vh.ownBlock = some b ∨ vg.ownBlock = some b := by
  simp [ownT, or_assoc]
theorem MapS.M.isMap {P : Program} {kt : TypeId} {κ : Type} [DecidableEq κ] {α : Type} {K : MapS.KT P kt κ} {vf : α → Value} {w : World} {b : Nat} {L : List (κ × α)} (h : MapS.M K vf w b L) : ∃ es c, w.heap[b]? = some (Obj.map es c) := by
  obtain ⟨⟨D, ⟨es, c, hb, _⟩, _⟩, _⟩ := h
  exact ⟨es, c, hb⟩
namespace TrM
variable {w w' : World} {B bt bm : Nat} {vo vh vg : Value} {t : Tr}
theorem cells (h : TrM w B bt bm vo vh vg t) : w.cell? ⟨bt, 0, none⟩ = some (.int .i64 t.im) ∧ w.cell? ⟨bt, 1, none⟩ = some (.int .i64 t.is) ∧ w.cell? ⟨bt, 2, none⟩ = some (.int .i64 t.st.1) ∧ w.cell? ⟨bt, 3, none⟩ = some (.int .u64 t.st.2.1) ∧ w.cell? ⟨bt, 4, none⟩ = some (.int .i64 t.st.2.2) ∧
    w.cell? ⟨bt, 5, none⟩ = some vo ∧ w.cell? ⟨bt, 6, none⟩ = some (.int .i64 t.told) ∧ w.cell? ⟨bt, 7, none⟩ = some (.map (some bm)) ∧ w.cell? ⟨bt, 8, none⟩ = some vh ∧ w.cell? ⟨bt, 9, none⟩ = some (.int .i64 t.state) ∧ w.cell? ⟨bt, 10, none⟩ = some vg ∧ w.cell? ⟨bt, 11, none⟩ = some (.bool t.rf) := by
  have h1 := h.blk
  refine ⟨?_, ?_, ?_, ?_, ?_, ?_, ?_, ?_, ?_, ?_, ?_, ?_⟩ <;> simp [World.cell?, h1]
theorem free (h : TrM w B bt bm vo vh vg t) (o : Nat) : w.frozen? ⟨bt, o, none⟩ = false := by simp [World.frozen?, h.blk]
theorem lt (h : TrM w B bt bm vo vh vg t) : bt < w.heap.size ∧ bm < w.heap.size := by
  obtain ⟨R, hR, _⟩ := h.mp
  exact ⟨lt_of_blk h.blk, MapS.M.lt ktQ hR⟩
/-- What a block of a trace's own holds. -/
theorem own_tag (h : TrM w B bt bm vo vh vg t) {b : Nat} (hb : b ∈ ownT bt bm vo vh vg) : B ≤ b ∧ b < w.heap.size ∧ ((∃ es c, w.heap[b]? = some (Obj.map es c)) ∨ ∃ (cs : Array Value) (e : TypeId), w.heap[b]? = some (Obj.cells cs e (0, 0)) ∧ (e = tT ∨ e = tQ ∨ e = tA ∨ e = 3)) := by
  obtain ⟨R, hR, _⟩ := h.mp
  obtain ⟨X, hX, _⟩ := h.hi
  rcases mem_ownT.1 hb with rfl | rfl | hb | hb | hb
  · exact ⟨h.bB.1, h.lt.1, .inr ⟨_, _, h.blk, .inl rfl⟩⟩
  · exact ⟨h.bB.2, h.lt.2, .inl hR.isMap⟩
  · obtain ⟨cs, hc⟩ := h.op.tag b hb
    exact ⟨h.op.ge b hb, h.op.lt b hb, .inr ⟨_, _, hc, .inr (.inl rfl)⟩⟩
  · obtain ⟨cs, hc⟩ := hX.tag b hb
    exact ⟨hX.ge b hb, hX.lt b hb, .inr ⟨_, _, hc, .inr (.inr (.inl rfl))⟩⟩
  · obtain ⟨cs, hc⟩ := h.ag.tag b hb
    exact ⟨h.ag.ge b hb, h.ag.lt b hb, .inr ⟨_, _, hc, .inr (.inr (.inr rfl))⟩⟩
/-- What touches other blocks leaves a trace as it is. -/
theorem keep {S : List Nat} (h : TrM w B bt bm vo vh vg t) (hk : Keeps S w w') (hS : ∀ b ∈ ownT bt bm vo vh vg, b ∉ S) (hi : KI w w') : TrM w' B bt bm vo vh vg t := by
  obtain ⟨X, hX, hXL⟩ := h.hi
  obtain ⟨R, hR, hRL⟩ := h.mp
  exact ⟨(hk.block bt h.lt.1 (hS bt (mem_ownT.2 (.inl rfl)))).trans h.blk, h.op.keepS hk (fun b hb e => hS b (mem_ownT.2 (.inr (.inr (.inl e)))) hb), ⟨X, hX.keepS hk (fun b hb e => hS b (mem_ownT.2 (.inr (.inr (.inr (.inl e))))) hb), hXL.ki hi⟩,
    h.ag.keepS hk (fun b hb e => hS b (mem_ownT.2 (.inr (.inr (.inr (.inr e))))) hb), ⟨R, hR.kept ktQ hk (hS bm (mem_ownT.2 (.inr (.inl rfl)))), hRL.ki hi⟩, h.inv, h.bB⟩
theorem keeps (h : TrM w B bt bm vo vh vg t) (hk : Keeps [] w w') : TrM w' B bt bm vo vh vg t := h.keep hk (by simp) hk.ki0
end TrM
end Go.Proofs.YtiplgpefapeapaaGreat

namespace Go.Proofs.YtiplgpefapeapaaGreat
open Go.RowKit
abbrev Qs := List (Qn × Option Ans)

def setQ (q : Qn) (a : Ans) (qs : Qs) : Qs := qs.map (fun p => if p.1 = q then (q, some a) else p)
def openQ (m : Int) (qs : Qs) (x : T3) : Qs := if (x.1, m, x.2.1) ∈ qs.map (·.1) then qs else qs ++ [((x.1, m, x.2.1), none)]
def Ans.odd (m ep : Int) (x : Ans) : Bool := x.m == m && x.ep != ep
def allQ (qs : Qs) : Bool := qs.all (fun p => p.2.isSome)
/-- A question is open. -/
def isOpen (q : Qn) (qs : Qs) : Bool := decide ((q, none) ∈ qs)
instance : DecidableEq (Qn × Option Ans) := inferInstance
def Tr.close (t : Tr) : Tr := if allQ t.qs then { t with state := 1 } else t
def Tr.take (t : Tr) (a : Ans) : Tr := { t with hist := t.hist ++ [a] }
def Tr.put (t : Tr) (a : Ans) : Tr := { t with qs := a.ins.foldl (openQ a.m) (setQ a.q a t.qs) }
def Tr.answer (t : Tr) (a : Ans) : Tr × Int :=
  if t.state ≠ 0 then (t, 9) else if isOpen a.q t.qs = false then (t, 6) else
  if a.kn = false then ({ t.take a with state := 4 }, 0) else if a.rt = true then ({ t.take a with state := 3 }, 0) else
  if (t.hist ++ [a]).any (Ans.odd a.m a.ep) then ({ t.take a with state := 4 }, 0) else (((t.take a).put a).close, 0)
theorem setQ_keys (q : Qn) (a : Ans) : ∀ qs : Qs, (setQ q a qs).map (·.1) = qs.map (·.1)
  | [] => rfl
  | (x, u) :: r => by
    have ih := setQ_keys q a r
    unfold setQ at ih ⊢
    simp only [List.map_cons]
    rw [ih]
    split
    · rename_i e; rw [e]
    · rfl
theorem recOf_keys {qs : Qs} {q : Qn} {a : Ans} : (q, a) ∈ recOf qs ↔ (q, some a) ∈ qs := by
  unfold recOf
  rw [List.mem_filterMap]
  constructor
  · rintro ⟨⟨x, o⟩, h1, h2⟩
    cases o with
    | none => cases h2
    | some b => simp at h2; obtain ⟨rfl, rfl⟩ := h2; exact h1
  · intro h
    exact ⟨_, h, rfl⟩
theorem recOf_sub : ∀ qs : Qs, ((recOf qs).map (·.1)).Sublist (qs.map (·.1))
  | [] => List.Sublist.slnil
  | (x, none) :: r => by
    have ih := recOf_sub r
    unfold recOf at ih ⊢
    exact List.Sublist.cons _ ih
  | (x, some a) :: r => by
    have ih := recOf_sub r
    unfold recOf at ih ⊢
    exact List.Sublist.cons_cons _ ih
theorem recOf_nd {qs : Qs} (h : (qs.map (·.1)).Nodup) : MapS.ND (recOf qs) := h.sublist (recOf_sub qs)
theorem nd_val {qs : Qs} (h : (qs.map (·.1)).Nodup) {q : Qn} {u v : Option Ans} (h1 : (q, u) ∈ qs) (h2 : (q, v) ∈ qs) : u = v := by
  have e1 := MapS.get_of_mem (L := qs) h h1
  have e2 := MapS.get_of_mem (L := qs) h h2
  rw [e1] at e2; cases e2; rfl
theorem rec_len : ∀ qs : Qs, (recOf qs).length ≤ qs.length ∧ ((recOf qs).length = qs.length ↔ allQ qs = true)
  | [] => ⟨Nat.le_refl _, by simp [recOf, allQ]⟩
  | (x, none) :: r => by
    obtain ⟨h1, h2⟩ := rec_len r
    have e : recOf ((x, none) :: r) = recOf r := rfl
    rw [e]
    refine ⟨by simp; omega, ?_⟩
    simp [allQ]; omega
  | (x, some a) :: r => by
    obtain ⟨h1, h2⟩ := rec_len r
    have e : recOf ((x, some a) :: r) = (x, a) :: recOf r := rfl
    rw [e]
    refine ⟨by simp; omega, ?_⟩
    have e2 : allQ ((x, some a) :: r) = allQ r := by simp [allQ]
    rw [e2, ← h2]; simp
theorem setQ_same {q : Qn} {a : Ans} : ∀ {qs : Qs}, q ∉ qs.map (·.1) → setQ q a qs = qs
  | [], _ => rfl
  | (x, u) :: r, h => by
    have ih := setQ_same (q := q) (a := a) (qs := r) (fun hm => h (List.mem_cons_of_mem _ hm))
    unfold setQ at ih ⊢
    rw [List.map_cons, ih, if_neg (fun e => h (by have e2 : x = q := e; rw [← e2]; simp))]
theorem setQ_cons (q x : Qn) (a : Ans) (u : Option Ans) (r : Qs) : setQ q a ((x, u) :: r) = (if x = q then (q, some a) else (x, u)) :: setQ q a r := rfl
theorem recOf_some (x : Qn) (a : Ans) (r : Qs) : recOf ((x, some a) :: r) = (x, a) :: recOf r := rfl
theorem recOf_none (x : Qn) (r : Qs) : recOf ((x, none) :: r) = recOf r := rfl
theorem setQ_len {q : Qn} {a : Ans} : ∀ {qs : Qs}, (qs.map (·.1)).Nodup → (q, none) ∈ qs → (recOf (setQ q a qs)).length = (recOf qs).length + 1
  | [], _, h => by simp at h
  | (x, u) :: r, hn, h => by
    obtain ⟨h1, h2⟩ := List.nodup_cons.1 hn
    rw [setQ_cons]
    rcases List.mem_cons.1 h with e | hm
    · cases e
      rw [if_pos rfl, setQ_same h1, recOf_some, recOf_none]; rfl
    · have hx : x ≠ q := fun e => h1 (List.mem_map.2 ⟨(q, none), hm, e.symm⟩)
      have ih := setQ_len (a := a) h2 hm
      rw [if_neg hx]
      cases u with
      | none => rw [recOf_none, recOf_none]; exact ih
      | some b => rw [recOf_some, recOf_some, List.length_cons, List.length_cons, ih]
theorem setQ_mem {q : Qn} {a : Ans} {qs : Qs} (hq : q ∈ qs.map (·.1)) (k : Qn) (u : Option Ans) : (k, u) ∈ setQ q a qs ↔ (k = q ∧ u = some a) ∨ (k ≠ q ∧ (k, u) ∈ qs) := by
  unfold setQ
  rw [List.mem_map]
  constructor
  · rintro ⟨⟨x, v⟩, h1, h2⟩
    simp only at h2
    split at h2
    · cases h2; exact .inl ⟨rfl, rfl⟩
    · cases h2; rename_i hne; exact .inr ⟨hne, h1⟩
  · rintro (⟨rfl, rfl⟩ | ⟨h1, h2⟩)
    · obtain ⟨⟨x, v⟩, h3, h4⟩ := List.mem_map.1 hq
      simp only at h4
      subst h4
      exact ⟨(x, v), h3, by simp⟩
    · exact ⟨(k, u), h2, by simp [h1]⟩
theorem get_rec {qs : Qs} (h : (qs.map (·.1)).Nodup) (k : Qn) (a : Ans) : MapS.get k (recOf qs) = some a ↔ (k, some a) ∈ qs := by
  rw [MapS.get_iff (recOf_nd h), recOf_keys]
theorem get_setQ {q : Qn} {a : Ans} {qs : Qs} (h : (qs.map (·.1)).Nodup) (hq : q ∈ qs.map (·.1)) (k : Qn) : MapS.get k (recOf (setQ q a qs)) = if k = q then some a else MapS.get k (recOf qs) := by
  have h' : ((setQ q a qs).map (·.1)).Nodup := by rw [setQ_keys]; exact h
  refine Option.ext fun b => ?_
  rw [get_rec h', setQ_mem hq]
  by_cases e : k = q
  · subst e
    simp [eq_comm]
  · rw [if_neg e, get_rec h]
    simp [e]
theorem openQ_rec (m : Int) (qs : Qs) (x : T3) : recOf (openQ m qs x) = recOf qs := by
  unfold openQ
  split
  · rfl
  · unfold recOf; simp
theorem openQ_nd {m : Int} {qs : Qs} {x : T3} (h : (qs.map (·.1)).Nodup) : ((openQ m qs x).map (·.1)).Nodup := by
  unfold openQ
  split
  · exact h
  · rename_i hn
    rw [List.map_append, List.nodup_append]
    exact ⟨h, by simp, fun a ha b hb e => by simp at hb; subst hb; subst e; exact hn ha⟩
theorem openQ_keys (m : Int) (qs : Qs) (x : T3) : (openQ m qs x).map (·.1) = if (x.1, m, x.2.1) ∈ qs.map (·.1) then qs.map (·.1) else qs.map (·.1) ++ [(x.1, m, x.2.1)] := by
  unfold openQ
  split <;> simp
theorem openQ_len (m : Int) (qs : Qs) (x : T3) : (openQ m qs x).length ≤ qs.length + 1 := by unfold openQ; split <;> simp
theorem fold_rec (m : Int) : ∀ (l : List T3) (qs : Qs), recOf (l.foldl (openQ m) qs) = recOf qs
  | [], _ => rfl
  | x :: t, qs => by rw [List.foldl_cons, fold_rec m t, openQ_rec]
theorem fold_nd (m : Int) : ∀ (l : List T3) (qs : Qs), (qs.map (·.1)).Nodup → ((l.foldl (openQ m) qs).map (·.1)).Nodup
  | [], _, h => h
  | x :: t, qs, h => by rw [List.foldl_cons]; exact fold_nd m t _ (openQ_nd h)
theorem fold_len (m : Int) : ∀ (l : List T3) (qs : Qs), (l.foldl (openQ m) qs).length ≤ qs.length + l.length
  | [], _ => by simp
  | x :: t, qs => by
    rw [List.foldl_cons]
    have := fold_len m t (openQ m qs x)
    have := openQ_len m qs x
    simp; omega
theorem fold_ok (m : Int) (hm : W64 m) : ∀ (l : List T3) (qs : Qs), (∀ x ∈ l, W64 x.1 ∧ x.2.1 < 18446744073709551616 ∧ W64 x.2.2) → (∀ q ∈ qs.map (·.1), qOk q) → ∀ q ∈ (l.foldl (openQ m) qs).map (·.1), qOk q
  | [], _, _, h => h
  | x :: t, qs, hl, h => by
    rw [List.foldl_cons]
    refine fold_ok m hm t _ (fun y hy => hl y (List.mem_cons_of_mem _ hy)) (fun q hq => ?_)
    rw [openQ_keys] at hq
    split at hq
    · exact h q hq
    · rcases List.mem_append.1 hq with hq | hq
      · exact h q hq
      · simp at hq
        subst hq
        have := hl x (by simp)
        exact ⟨this.1, hm, this.2.1⟩
/-- An answer keeps what holds of a trace. -/
theorem Tr.Inv.take {t : Tr} {a : Ans} (h : t.Inv) (ha : a.Ok) : (t.take a).Inv := ⟨h.ok, h.nd, h.rq, h.rk, fun b hb => by rcases List.mem_append.1 hb with hb | hb; exact h.hi b hb; simp at hb; subst hb; exact ha, h.ro⟩
theorem Tr.Inv.state {t : Tr} (h : t.Inv) (s : Int) : Tr.Inv { t with state := s } := ⟨h.ok, h.nd, h.rq, h.rk, h.hi, h.ro⟩
theorem isOpen_mem {q : Qn} {qs : Qs} : isOpen q qs = true ↔ (q, none) ∈ qs := by unfold isOpen; simp
theorem Tr.Inv.put {t : Tr} {a : Ans} (h : t.Inv) (ha : a.Ok) (hk : a.kn = true) (ho : isOpen a.q t.qs = true) : (t.put a).Inv := by
  have hm := isOpen_mem.1 ho
  have hq : a.q ∈ t.qs.map (·.1) := List.mem_map.2 ⟨_, hm, rfl⟩
  have hr : (t.put a).rec' = recOf (setQ a.q a t.qs) := fold_rec _ _ _
  have hnd : ((setQ a.q a t.qs).map (·.1)).Nodup := by rw [setQ_keys]; exact h.nd
  have hmem : ∀ p ∈ (t.put a).rec', (p.1 = a.q ∧ p.2 = a) ∨ p ∈ t.rec' := fun p hp => by
    rw [hr] at hp
    obtain ⟨k, b⟩ := p
    rcases (setQ_mem hq k (some b)).1 (recOf_keys.1 hp) with ⟨h1, h2⟩ | ⟨_, h2⟩
    · exact .inl ⟨h1, by simpa using h2⟩
    · exact .inr (recOf_keys.2 h2)
  refine ⟨fold_ok a.m ha.q.1 _ _ ha.ins (by rw [setQ_keys]; exact h.ok), fold_nd _ _ _ hnd, fun p hp => ?_, fun p hp => ?_, h.hi, fun p hp => ?_⟩
  · rcases hmem p hp with ⟨h1, h2⟩ | h1
    · rw [h1, h2]
    · exact h.rq p h1
  · rcases hmem p hp with ⟨h1, h2⟩ | h1
    · rw [h2]; exact hk
    · exact h.rk p h1
  · rcases hmem p hp with ⟨h1, h2⟩ | h1
    · rw [h2]; exact ha
    · exact h.ro p h1
end Go.Proofs.YtiplgpefapeapaaGreat

namespace Go.Proofs.YtiplgpefapeapaaGreat
open Go.RowKit

def Tr.new (im is : Int) (st : T3) : Tr := ⟨im, is, st, [((im, st.1, st.2.1), none)], 0, [], 0, [], false⟩
abbrev idV (a b : Int) : Value := .agg #[.int .i64 a, .int .i64 b]
theorem Sh.O.one {α : Type} (s : Sh α) (w : World) (x : α) (xs : Array Value) (e B : Nat) (hx : xs.toList = s.cf x) (hB : B ≤ w.heap.size) : s.O (w.alloc (.cells xs e)) B e (.slice (some ⟨w.heap.size, 0, none⟩) 1 1) [x] := by
  have hl : xs.size = s.sz := by rw [← Array.length_toList, hx]; exact s.len x
  refine ⟨by simp [Sh.cs, s.len], .inr ⟨w.heap.size, 1, xs, rfl, hB, heap_alloc_new w _, Nat.le_refl _, by simp [maxLen], by simpa using hl, ?_⟩⟩
  rw [List.take_of_length_le (by simp [hl]), hx]
  simp [Sh.cs]
set_option maxRecDepth 100000 in
set_option maxHeartbeats 2000000 in
theorem new_c (w : World) (im is : Int) (st : T3) (h1 : W64 im) (h2 : W64 st.1) (h3 : st.2.1 < 18446744073709551616) :
    Calls Tryz.prog 13 #[idV im is, tV st] w fun e w' => ∃ bt bm vo, e = .returned (.pointer (some ⟨bt, 0, none⟩)) ∧ TrM w' w.heap.size bt bm vo (.slice none 0 0) (.slice none 0 0) (Tr.new im is st) ∧ Keeps [] w w' := by
  obtain ⟨s0, s1, s2⟩ := st
  simp only at h2 h3
  have hmm := @run_makeMap Tryz.prog
  go_enter Tryz.func13, Tryz.ntmps13
  go_wp2
  go_ret
  obtain ⟨w1, hw1⟩ : ∃ w1, (w.alloc (.cells #[.int .i64 im, .int .i64 is] 25)).alloc (.cells #[.int .i64 s0, .int .u64 s1, .int .i64 s2] tN) = w1 := ⟨_, rfl⟩
  have hk1 : Keeps [] w w1 := by rw [← hw1]; exact ((Keeps.refl _ _).alloc _).alloc _
  have hz1 : w1.heap.size = w.heap.size + 1 + 1 := by rw [← hw1]; simp
  rw [hw1, ← hz1]
  have hO := Sh.O.one shQ w1 (im, s0, s1) #[.int .i64 im, .int .i64 s0, .int .u64 s1] tQ w.heap.size rfl (by omega)
  have hk2 := hk1.alloc (.cells #[.int .i64 im, .int .i64 s0, .int .u64 s1] tQ)
  obtain ⟨w2, hw2⟩ : ∃ w2, w1.alloc (.cells #[.int .i64 im, .int .i64 s0, .int .u64 s1] tQ) = w2 := ⟨_, rfl⟩
  have hz2 : w2.heap.size = w1.heap.size + 1 := by rw [← hw2]; simp
  rw [hw2] at hO hk2 ⊢
  rw [← hz2]
  have hM := MapS.M.made ktQ (vf := aV) w2
  have hkM : Keeps [] w2 (w2.alloc (.map #[] 0)) := (Keeps.refl _ _).alloc _
  obtain ⟨w3, hw3⟩ : ∃ w3, w2.alloc (.map #[] 0) = w3 := ⟨_, rfl⟩
  have hz3 : w3.heap.size = w2.heap.size + 1 := by rw [← hw3]; simp
  rw [hw3] at hM hkM ⊢
  rw [← hz3]
  refine ⟨w3.heap.size, w2.heap.size, .slice (some ⟨w1.heap.size, 0, none⟩) 1 1, rfl, ?_, (hk2.trans hkM).alloc _⟩
  have hk4 : Keeps [] w3 (w3.alloc (.cells #[.int .i64 im, .int .i64 is, .int .i64 s0, .int .u64 s1, .int .i64 s2, .slice (some ⟨w1.heap.size, 0, none⟩) 1 1, .int .i64 0, .map (some w2.heap.size), .slice none 0 0, .int .i64 0, .slice none 0 0, .bool false] tT)) := (Keeps.refl _ _).alloc _
  exact ⟨heap_alloc_new w3 _, hO.keeps (hkM.trans hk4), ⟨[], Sh.O.nil _ _ _ _, LA.nil _⟩, Sh.O.nil _ _ _ _, ⟨[], hM.keeps ktQ hk4, rfl, fun q => .inl ⟨rfl, rfl⟩⟩, ⟨fun q hq => by simp [Tr.op, Tr.new] at hq; subst hq; exact ⟨h1, h2, h3⟩, by simp [Tr.op, Tr.new], by simp [Tr.rec', Tr.new, recOf], by simp [Tr.rec', Tr.new, recOf], by simp [Tr.new], by simp [Tr.rec', Tr.new, recOf]⟩, by omega⟩
theorem cells8 {w : World} {b : Nat} {x0 x1 x2 x3 x4 x5 x6 x7 : Value} {t : TypeId} (h : w.heap[b]? = some (.cells #[x0, x1, x2, x3, x4, x5, x6, x7] t (0, 0))) : w.cell? ⟨b, 0, none⟩ = some x0 ∧ w.cell? ⟨b, 1, none⟩ = some x1 ∧ w.cell? ⟨b, 2, none⟩ = some x2 ∧ w.cell? ⟨b, 3, none⟩ = some x3 ∧ w.cell? ⟨b, 4, none⟩ = some x4 ∧ w.cell? ⟨b, 5, none⟩ = some x5 ∧ w.cell? ⟨b, 6, none⟩ = some x6 ∧ w.cell? ⟨b, 7, none⟩ = some x7 ∧ (∀ o, w.frozen? ⟨b, o, none⟩ = false) ∧ b < w.heap.size := by
  refine ⟨?_, ?_, ?_, ?_, ?_, ?_, ?_, ?_, ?_, lt_of_blk h⟩ <;> simp [World.cell?, World.frozen?, h]
theorem setCs {w : World} {b : Nat} {cs : Array Value} {t : TypeId} {f : Nat × Nat} (h : w.heap[b]? = some (.cells cs t f)) (o : Nat) (v : Value) : (w.setCell ⟨b, o, none⟩ v).heap[b]? = some (.cells (cs.setIfInBounds o v) t f) := by
  simp [World.setCell, Array.getElem?_modify, h]
theorem setO {w : World} {b b' : Nat} (hb : b ≠ b') (o : Nat) (v : Value) : (w.setCell ⟨b', o, none⟩ v).heap[b]? = w.heap[b]? := Below.heap_setCell _ _ _ _ (by simpa using hb)
/-- An answer is copied into another block. -/
theorem cp8 {w : World} {X : Nat} {x0 x1 x2 x3 x4 x5 x6 x7 u0 u1 u2 u3 u4 u5 u6 u7 : Value} (h1 : w.heap[X]? = some (.cells #[x0, x1, x2, x3, x4, x5, x6, x7] tA (0, 0))) (h2 : w.heap[X + 1]? = some (.cells #[u0, u1, u2, u3, u4, u5, u6, u7] tA (0, 0))) (a : Option Addr) (n c : Nat) :
    (((((((((w.setCell ⟨X, 7, none⟩ (.slice a n c)).setCell ⟨X + 1, 0, none⟩ x0).setCell ⟨X + 1, 1, none⟩ x1).setCell ⟨X + 1, 2, none⟩ x2).setCell ⟨X + 1, 3, none⟩ x3).setCell ⟨X + 1, 4, none⟩ x4).setCell ⟨X + 1, 5, none⟩ x5).setCell ⟨X + 1, 6, none⟩ x6).setCell ⟨X + 1, 7, none⟩ (.slice a n c)).heap[X + 1]? = some (.cells #[x0, x1, x2, x3, x4, x5, x6, .slice a n c] tA (0, 0)) ∧
    Keeps [X, X + 1] w (((((((((w.setCell ⟨X, 7, none⟩ (.slice a n c)).setCell ⟨X + 1, 0, none⟩ x0).setCell ⟨X + 1, 1, none⟩ x1).setCell ⟨X + 1, 2, none⟩ x2).setCell ⟨X + 1, 3, none⟩ x3).setCell ⟨X + 1, 4, none⟩ x4).setCell ⟨X + 1, 5, none⟩ x5).setCell ⟨X + 1, 6, none⟩ x6).setCell ⟨X + 1, 7, none⟩ (.slice a n c)) ∧ KI w (((((((((w.setCell ⟨X, 7, none⟩ (.slice a n c)).setCell ⟨X + 1, 0, none⟩ x0).setCell ⟨X + 1, 1, none⟩ x1).setCell ⟨X + 1, 2, none⟩ x2).setCell ⟨X + 1, 3, none⟩ x3).setCell ⟨X + 1, 4, none⟩ x4).setCell ⟨X + 1, 5, none⟩ x5).setCell ⟨X + 1, 6, none⟩ x6).setCell ⟨X + 1, 7, none⟩ (.slice a n c)) := by
  have hk : Keeps [X, X + 1] w (((((((((w.setCell ⟨X, 7, none⟩ (.slice a n c)).setCell ⟨X + 1, 0, none⟩ x0).setCell ⟨X + 1, 1, none⟩ x1).setCell ⟨X + 1, 2, none⟩ x2).setCell ⟨X + 1, 3, none⟩ x3).setCell ⟨X + 1, 4, none⟩ x4).setCell ⟨X + 1, 5, none⟩ x5).setCell ⟨X + 1, 6, none⟩ x6).setCell ⟨X + 1, 7, none⟩ (.slice a n c)) := by
    refine (((((((((Keeps.refl _ w).setCell ?_ _).setCell ?_ _).setCell ?_ _).setCell ?_ _).setCell ?_ _).setCell ?_ _).setCell ?_ _).setCell ?_ _).setCell ?_ _ <;> exact .inr (by simp)
  refine ⟨?_, hk, hk.ki (fun b hb cs f e => ?_)⟩
  · clear hk
    have s0 := (setO (b := X + 1) (b' := X) (by omega) 7 (.slice a n c)).trans h2
    generalize w.setCell ⟨X, 7, none⟩ (.slice a n c) = w0 at s0 ⊢
    have s1 := setCs s0 0 x0
    generalize w0.setCell ⟨X + 1, 0, none⟩ x0 = w1 at s1 ⊢
    have s2 := setCs s1 1 x1
    generalize w1.setCell ⟨X + 1, 1, none⟩ x1 = w2 at s2 ⊢
    have s3 := setCs s2 2 x2
    generalize w2.setCell ⟨X + 1, 2, none⟩ x2 = w3 at s3 ⊢
    have s4 := setCs s3 3 x3
    generalize w3.setCell ⟨X + 1, 3, none⟩ x3 = w4 at s4 ⊢
    have s5 := setCs s4 4 x4
    generalize w4.setCell ⟨X + 1, 4, none⟩ x4 = w5 at s5 ⊢
    have s6 := setCs s5 5 x5
    generalize w5.setCell ⟨X + 1, 5, none⟩ x5 = w6 at s6 ⊢
    have s7 := setCs s6 6 x6
    generalize w6.setCell ⟨X + 1, 6, none⟩ x6 = w7 at s7 ⊢
    have s8 := setCs s7 7 (.slice a n c)
    generalize w7.setCell ⟨X + 1, 7, none⟩ (.slice a n c) = w8 at s8 ⊢
    simpa using s8
  · simp at hb
    rcases hb with rfl | rfl
    · rw [h1] at e; cases e
    · rw [h2] at e; cases e
set_option maxRecDepth 100000 in
set_option maxHeartbeats 2000000 in
theorem copied_c (w : World) (x : AnV) (L : List T3) (h : shT.R w x.v L) (hl : L.length ≤ 1000000) :
    Calls Tryz.prog 60 #[aV x] w fun e w' => ∃ x' : AnV, e = .returned (aV x') ∧ x'.m = x.m ∧ x'.ow = x.ow ∧ x'.n = x.n ∧ x'.ep = x.ep ∧ x'.kn = x.kn ∧ x'.rt = x.rt ∧ x'.lu = x.lu ∧ InsO w' x'.v L ∧ Keeps [] w w' := by
  obtain ⟨x0, x1, x2, x3, x4, x5, x6, x7, x8, x9⟩ := x
  have hC := fun W (hk : Keeps [] w W) => cloneI_c W _ L (h.keeps hk) hl
  simp only [AnV.v] at hC
  have hkA : Keeps [] w (w.alloc (.cells #[.int .i64 x0, .int .i64 x1, .int .u64 x2, .int .i64 x3, .bool x4, .bool x5, .int .i64 x6, .slice x7 x8 x9] tA)) := (Keeps.refl _ _).alloc _
  have hb := heap_alloc_new w (.cells #[.int .i64 x0, .int .i64 x1, .int .u64 x2, .int .i64 x3, .bool x4, .bool x5, .int .i64 x6, .slice x7 x8 x9] tA)
  replace hC := Lib.hid hC
  replace hkA := Lib.hid hkA
  replace hb := Lib.hid hb
  clear h
  simp only [aV, AnV.v]
  go_enter Tryz.func60, Tryz.ntmps60
  go_wp2_with fail
  have hk2 : Keeps [] (w.alloc (.cells #[.int .i64 x0, .int .i64 x1, .int .u64 x2, .int .i64 x3, .bool x4, .bool x5, .int .i64 x6, .slice x7 x8 x9] tA)) ((w.alloc (.cells #[.int .i64 x0, .int .i64 x1, .int .u64 x2, .int .i64 x3, .bool x4, .bool x5, .int .i64 x6, .slice x7 x8 x9] tA)).alloc (.cells #[.int .i64 0, .int .i64 0, .int .u64 0, .int .i64 0, .bool false, .bool false, .int .i64 0, .slice none 0 0] tA)) := (Keeps.refl _ _).alloc _
  have hb1 := (hk2.block w.heap.size (by simp) (by simp)).trans hb.out
  have hb2 := heap_alloc_new (w.alloc (.cells #[.int .i64 x0, .int .i64 x1, .int .u64 x2, .int .i64 x3, .bool x4, .bool x5, .int .i64 x6, .slice x7 x8 x9] tA)) (.cells #[.int .i64 0, .int .i64 0, .int .u64 0, .int .i64 0, .bool false, .bool false, .int .i64 0, .slice none 0 0] tA)
  rw [show (w.alloc (.cells #[.int .i64 x0, .int .i64 x1, .int .u64 x2, .int .i64 x3, .bool x4, .bool x5, .int .i64 x6, .slice x7 x8 x9] tA)).heap.size = w.heap.size + 1 by simp] at hb2
  have hk02 := hkA.out.trans hk2
  have hsz : ((w.alloc (.cells #[.int .i64 x0, .int .i64 x1, .int .u64 x2, .int .i64 x3, .bool x4, .bool x5, .int .i64 x6, .slice x7 x8 x9] tA)).alloc (.cells #[.int .i64 0, .int .i64 0, .int .u64 0, .int .i64 0, .bool false, .bool false, .int .i64 0, .slice none 0 0] tA)).heap.size = w.heap.size + 2 := by simp
  clear hkA hb hk2
  generalize ((w.alloc (.cells #[.int .i64 x0, .int .i64 x1, .int .u64 x2, .int .i64 x3, .bool x4, .bool x5, .int .i64 x6, .slice x7 x8 x9] tA)).alloc (.cells #[.int .i64 0, .int .i64 0, .int .u64 0, .int .i64 0, .bool false, .bool false, .int .i64 0, .slice none 0 0] tA)) = W at *
  refine (hC.out W hk02).mono ?_
  rintro e w1 ⟨v1, rfl, hO, hk1⟩
  have hI : InsO w1 v1 L := ⟨_, hO⟩
  have hge := hO.ge
  obtain ⟨a1, c1, rfl⟩ := hO.form
  obtain ⟨LL, hLL⟩ : ∃ n, L.length = n := ⟨_, rfl⟩
  rw [hLL] at hI hge ⊢
  have hb11 := (hk1.block _ (by omega) (by simp)).trans hb1
  have hb21 := (hk1.block _ (by omega) (by simp)).trans hb2
  have hk01 := hk02.trans hk1
  have hz1 := hk1.size
  obtain ⟨X, hX⟩ : ∃ X, w.heap.size = X := ⟨_, rfl⟩
  rw [hX] at hb11 hb21 hsz ⊢
  have hfin := cp8 hb11 hb21 a1 LL c1
  obtain ⟨y0, y1, y2, y3, y4, y5, y6, y7, yf, ylt⟩ := cells8 hb11
  obtain ⟨z0, z1, z2, z3, z4, z5, z6, z7, zf, zlt⟩ := cells8 hb21
  replace hI := Lib.hid hI
  replace hge := Lib.hid hge
  replace hk01 := Lib.hid hk01
  replace hfin := Lib.hid hfin
  replace hX := Lib.hid hX
  replace hLL := Lib.hid hLL
  clear hb1 hb2 hb11 hb21 hO hk1 hk02 hC hsz
  go_wp2
  obtain ⟨g1, g2, g3⟩ := hfin.out
  refine bodyPost_ret (results_cell_row rfl _ _ _ _ _ _ _ rfl g1 Tryz.underlying46 rfl (by kernel_rfl)) rfl ?_
  refine ⟨⟨x0, x1, x2, x3, x4, x5, x6, a1, LL, c1⟩, rfl, rfl, rfl, rfl, rfl, rfl, rfl, rfl, hI.out.ki g3, hk01.out.fresh g2 (fun b hb => by rw [hX.out]; simp at hb; rcases hb with rfl | rfl <;> exact .inr (by omega))⟩
end Go.Proofs.YtiplgpefapeapaaGreat

namespace Go.Proofs.YtiplgpefapeapaaGreat
open Go.RowKit

def AnV.odd (m ep : Int) (x : AnV) : Bool := x.m == m && x.ep != ep
set_option maxRecDepth 100000 in
set_option maxHeartbeats 2000000 in
theorem odd_c (w : World) (x : AnV) (bx : Nat) (m ep : Int) (h0 : w.cell? ⟨bx, 0, none⟩ = some (.int .i64 m)) (h3 : w.cell? ⟨bx, 3, none⟩ = some (.int .i64 ep)) :
    Calls Tryz.prog 61 #[aV x, .pointer (some ⟨bx, 0, none⟩)] w fun e w' => e = .returned (.bool (x.odd m ep)) ∧ Keeps [] w w' := by
  have hlt := lt_of_cell h0
  obtain ⟨x0, x1, x2, x3, x4, x5, x6, x7, x8, x9⟩ := x
  simp only [aV, AnV.v, AnV.odd]
  have hkA : Keeps [] w (w.alloc (.cells #[.int .i64 x0, .int .i64 x1, .int .u64 x2, .int .i64 x3, .bool x4, .bool x5, .int .i64 x6, .slice x7 x8 x9] tA)) := (Keeps.refl _ _).alloc _
  by_cases e1 : x0 = m
  · subst e1
    have b1 : (x0 == x0) = true := by simp
    by_cases e2 : x3 = ep
    · subst e2
      have b2 : (x3 != x3) = false := by simp
      go_enter Tryz.func61, Tryz.ntmps61
      go_wp2
      go_ret
      exact ⟨by rw [b1, b2]; rfl, hkA⟩
    · have b2 : (x3 != ep) = true := by simpa using e2
      go_enter Tryz.func61, Tryz.ntmps61
      go_wp2
      go_ret
      exact ⟨by rw [b1, b2]; rfl, hkA⟩
  · have b1 : (x0 == m) = false := by simpa using e1
    go_enter Tryz.func61, Tryz.ntmps61
    go_wp2
    go_ret
    exact ⟨by rw [b1]; rfl, hkA⟩
set_option maxRecDepth 100000 in
set_option maxHeartbeats 2000000 in
theorem indexA_c (w : World) (v : Value) (X : List AnV) (bx : Nat) (m ep : Int) (h : shA.R w v X) (h0 : w.cell? ⟨bx, 0, none⟩ = some (.int .i64 m)) (h3 : w.cell? ⟨bx, 3, none⟩ = some (.int .i64 ep)) :
    Calls Tryz.prog 87 #[v, .func (.func 61) #[] #[.pointer (some ⟨bx, 0, none⟩)]] w fun e w' => ∃ i : Int, e = .returned (.int .i64 i) ∧ (X.any (AnV.odd m ep) = true → 0 ≤ i) ∧ (X.any (AnV.odd m ep) = false → i = -1) ∧ Keeps [] w w' := by
  obtain ⟨a, c, rfl, hlc, hcm, _⟩ := h.form
  have hel := fun k hk => h.elem (k := k) hk
  obtain ⟨M, hM⟩ : ∃ N, X.length = N := ⟨_, rfl⟩
  rw [hM] at hlc ⊢
  have hMm : M ≤ 9223372036854775807 := by unfold maxLen at hcm; omega
  replace hel := Lib.hid hel
  replace hM := Lib.hid hM
  clear h
  go_enter Tryz.func87, Tryz.ntmps87
  go_wp2
  go_loopw [8, 5] (fun i _ wr => ∃ k : Nat, i = .int .i64 k ∧ k ≤ M ∧ Hid (∀ j (hj : j < X.length), j < k → X[j].odd m ep = false) ∧ Keeps [] w wr) (fun i _ _ => M - (intOf i).toNat)
  case atStart => exact ⟨0, rfl, by omega, fun _ _ h => by omega, Keeps.refl _ _⟩
  case round =>
    obtain ⟨k, rfl, hk, hno, hkw⟩ := hrel
    by_cases hlt : k < M
    · obtain ⟨g, o, c', hv, he⟩ := hel.out k (by rw [hM.out]; exact hlt)
      cases hv
      obtain ⟨x, hx⟩ : ∃ x, X[k]'(by rw [hM.out]; exact hlt) = x := ⟨_, rfl⟩
      rw [hx] at he
      have hoc := odd_c wr x bx m ep (hkw.val h0) (hkw.val h3)
      obtain ⟨x0, x1, x2, x3, x4, x5, x6, x7, x8, x9⟩ := x
      have e0 := hkw.val (he 0 _ rfl)
      have e1 := hkw.val (he 1 _ rfl)
      have e2 := hkw.val (he 2 _ rfl)
      have e3 := hkw.val (he 3 _ rfl)
      have e4 := hkw.val (he 4 _ rfl)
      have e5 := hkw.val (he 5 _ rfl)
      have e6 := hkw.val (he 6 _ rfl)
      have e7 := hkw.val (he 7 _ rfl)
      simp only [shA, AnV.v, Nat.add_zero] at e0 e1 e2 e3 e4 e5 e6 e7
      simp only [aV, AnV.v] at hoc
      obtain ⟨od, hod⟩ : ∃ od, AnV.odd m ep ⟨x0, x1, x2, x3, x4, x5, x6, x7, x8, x9⟩ = od := ⟨_, rfl⟩
      rw [hod] at hoc
      replace hx := Lib.hid hx
      replace hod := Lib.hid hod
      replace hkw := Lib.hid hkw
      replace hoc := Lib.hid hoc
      clear he
      go_wp2_with fail
      refine hoc.out.mono ?_
      rintro e w1 ⟨rfl, hk1⟩
      cases od with
      | true =>
        go_wp2
        go_ret
        exact ⟨k, rfl, fun _ => by omega, fun h => by
          rw [List.any_eq_false] at h
          have := h _ (hx.out ▸ List.getElem_mem _)
          exact absurd hod.out this, hkw.out.trans hk1⟩
      | false =>
        have hk2 := hkw.out.trans hk1
        go_wp2
        go_roundw
        case rel => exact ⟨k + 1, rfl, by omega, fun j hj hjk => by
            by_cases e : j = k
            · subst e; rw [hx.out]; exact hod.out
            · exact hno.out j hj (by omega), hk2⟩
        case measure => simp [intOf]; omega
    · go_wp2
      go_ret
      exact ⟨-1, rfl, (fun h => by
        rw [List.any_eq_true] at h
        obtain ⟨y, hy, ho⟩ := h
        obtain ⟨j, hj, rfl⟩ := List.getElem_of_mem hy
        rw [hno.out j hj (by rw [hM.out] at hj; omega)] at ho
        cases ho), fun _ => rfl, hkw⟩
set_option maxRecDepth 100000 in
set_option maxHeartbeats 1000000 in
theorem anyA_c (w : World) (v : Value) (X : List AnV) (bx : Nat) (m ep : Int) (h : shA.R w v X) (h0 : w.cell? ⟨bx, 0, none⟩ = some (.int .i64 m)) (h3 : w.cell? ⟨bx, 3, none⟩ = some (.int .i64 ep)) :
    Calls Tryz.prog 62 #[v, .func (.func 61) #[] #[.pointer (some ⟨bx, 0, none⟩)]] w fun e w' => e = .returned (.bool (X.any (AnV.odd m ep))) ∧ Keeps [] w w' := by
  have hI := indexA_c w v X bx m ep h h0 h3
  obtain ⟨b, hb⟩ : ∃ b, X.any (AnV.odd m ep) = b := ⟨_, rfl⟩
  rw [hb] at hI ⊢
  obtain ⟨a, c, rfl, _, _, _⟩ := h.form
  replace hI := Lib.hid hI
  replace hb := Lib.hid hb
  clear h h0 h3
  go_enter Tryz.func62, Tryz.ntmps62
  go_wp2_with fail
  refine hI.out.mono ?_
  rintro e w1 ⟨i, rfl, h1, h2, hk1⟩
  cases b with
  | true =>
    have h0 := h1 rfl
    replace h2 := Lib.hid h2
    go_wp2
    go_ret
    exact ⟨rfl, hk1⟩
  | false =>
    have h0 := h2 rfl
    subst h0
    replace h1 := Lib.hid h1
    go_wp2
    go_ret
    exact ⟨rfl, hk1⟩
end Go.Proofs.YtiplgpefapeapaaGreat

namespace Go.Proofs.YtiplgpefapeapaaGreat
open Go.RowKit

theorem MapS.M.at' {P : Program} {kt : TypeId} {κ : Type} [DecidableEq κ] {α : Type} {K : MapS.KT P kt κ} {vf : α → Value} {w w' : World} {b : Nat} {L : List (κ × α)} (h : MapS.M K vf w b L) (hb : w'.heap[b]? = w.heap[b]?) : MapS.M K vf w' b L := by
  obtain ⟨⟨D, ⟨es, clock, h1, F, hs, hD⟩, h2, h3⟩, ha, hw⟩ := h
  exact ⟨⟨D, ⟨es, clock, hb.trans h1, F, hs, hD⟩, h2, h3⟩, ha, hw⟩
theorem Keeps.setT {w : World} {bt o : Nat} {cs : Array Value} (h : w.heap[bt]? = some (.cells cs tT (0, 0))) (v : Value) : Keeps [bt] w (w.setCell ⟨bt, o, none⟩ v) ∧ KI w (w.setCell ⟨bt, o, none⟩ v) := by
  have hk : Keeps [bt] w (w.setCell ⟨bt, o, none⟩ v) := (Keeps.refl _ _).setCell (.inr (by simp)) _
  refine ⟨hk, hk.ki (fun b hb cs f e => ?_)⟩
  simp at hb; subst hb
  rw [h] at e; cases e
namespace TrM
variable {w w' : World} {B bt bm : Nat} {vo vh vg : Value} {t : Tr}
theorem ne_bt (h : TrM w B bt bm vo vh vg t) : bm ≠ bt ∧ vo.ownBlock ≠ some bt ∧ vh.ownBlock ≠ some bt ∧ vg.ownBlock ≠ some bt := by
  obtain ⟨R, hR, _⟩ := h.mp
  obtain ⟨X, hX, _⟩ := h.hi
  refine ⟨fun e => ?_, fun e => ?_, fun e => ?_, fun e => ?_⟩
  · obtain ⟨es, c, hm⟩ := hR.isMap
    rw [e, h.blk] at hm; cases hm
  · obtain ⟨cs, hc⟩ := h.op.tag bt e
    exact tag_ne h.blk hc (by decide) rfl
  · obtain ⟨cs, hc⟩ := hX.tag bt e
    exact tag_ne h.blk hc (by decide) rfl
  · obtain ⟨cs, hc⟩ := h.ag.tag bt e
    exact tag_ne h.blk hc (by decide) rfl
/-- A cell of the trace itself is stored. -/
theorem store (h : TrM w B bt bm vo vh vg t) (o : Nat) (v : Value) : (w.setCell ⟨bt, o, none⟩ v).heap[bt]? = some (.cells ((#[.int .i64 t.im, .int .i64 t.is, .int .i64 t.st.1, .int .u64 t.st.2.1, .int .i64 t.st.2.2, vo, .int .i64 t.told, .map (some bm), vh, .int .i64 t.state, vg, .bool t.rf] : Array Value).setIfInBounds o v) tT (0, 0)) ∧
    shQ.O (w.setCell ⟨bt, o, none⟩ v) B tQ vo t.op ∧ (∃ X, shA.O (w.setCell ⟨bt, o, none⟩ v) B tA vh X ∧ LA (w.setCell ⟨bt, o, none⟩ v) X t.hist) ∧ shZ.O (w.setCell ⟨bt, o, none⟩ v) B 3 vg t.ag ∧
    (∃ R, MapS.M ktQ aV (w.setCell ⟨bt, o, none⟩ v) bm R ∧ LR (w.setCell ⟨bt, o, none⟩ v) R t.rec') ∧ Keeps [bt] w (w.setCell ⟨bt, o, none⟩ v) ∧ KI w (w.setCell ⟨bt, o, none⟩ v) := by
  obtain ⟨hk, hi⟩ := Keeps.setT (o := o) h.blk v
  obtain ⟨n1, n2, n3, n4⟩ := h.ne_bt
  obtain ⟨X, hX, hXL⟩ := h.hi
  obtain ⟨R, hR, hRL⟩ := h.mp
  exact ⟨setCs h.blk o v, h.op.keepS hk (by simpa using n2), ⟨X, hX.keepS hk (by simpa using n3), hXL.ki hi⟩, h.ag.keepS hk (by simpa using n4), ⟨R, hR.kept ktQ hk (by simpa using n1), hRL.ki hi⟩, hk, hi⟩
theorem setState (h : TrM w B bt bm vo vh vg t) (s : Int) : TrM (w.setCell ⟨bt, 9, none⟩ (.int .i64 s)) B bt bm vo vh vg { t with state := s } := by
  obtain ⟨h1, h2, h3, h4, h5, _⟩ := h.store 9 (.int .i64 s)
  exact ⟨by simpa using h1, h2, h3, h4, h5, h.inv.state s, h.bB⟩
theorem setTold (h : TrM w B bt bm vo vh vg t) (s : Int) : TrM (w.setCell ⟨bt, 6, none⟩ (.int .i64 s)) B bt bm vo vh vg { t with told := s } := by
  obtain ⟨h1, h2, h3, h4, h5, _⟩ := h.store 6 (.int .i64 s)
  exact ⟨by simpa using h1, h2, h3, h4, h5, ⟨h.inv.ok, h.inv.nd, h.inv.rq, h.inv.rk, h.inv.hi, h.inv.ro⟩, h.bB⟩
/-- The history has grown. -/
theorem setHist (h : TrM w B bt bm vo vh vg t) {vh' : Value} {X : List AnV} {a : Ans} (hG : Grw w w' vh vh') (hO : shA.O w' B tA vh' X) (hL : LA w' X (t.hist ++ [a])) (ha : a.Ok) :
    TrM (w'.setCell ⟨bt, 8, none⟩ vh') B bt bm vo vh' vg (t.take a) ∧ Keeps [bt] w' (w'.setCell ⟨bt, 8, none⟩ vh') ∧ KI w w' ∧ KI w' (w'.setCell ⟨bt, 8, none⟩ vh') := by
  obtain ⟨n1, n2, n3, n4⟩ := h.ne_bt
  obtain ⟨X0, hX0, hX0L⟩ := h.hi
  obtain ⟨R, hR, hRL⟩ := h.mp
  have hk := hG.keepsO
  have hi : KI w w' := hk.ki (fun b hb cs f e => by
    obtain ⟨cs', hc⟩ := hX0.tag b (by simpa using hb)
    exact tag_ne hc e (by decide) rfl)
  have hne : ∀ (e : TypeId) (b : Nat) (cs : Array Value), w.heap[b]? = some (Obj.cells cs e (0, 0)) → tA ≠ e → b ∉ vh.ownBlock.toList := fun e b cs hb hn hm => by
    obtain ⟨cs', hc⟩ := hX0.tag b (by simpa using hm)
    exact tag_ne hc hb hn rfl
  have hblk : w'.heap[bt]? = _ := (hk.block bt h.lt.1 (hne _ _ _ h.blk (by decide))).trans h.blk
  have hop : shQ.O w' B tQ vo t.op := h.op.keepS hk (fun b hb e => by obtain ⟨cs, hc⟩ := h.op.tag b e; exact hne _ _ _ hc (by decide) hb)
  have hag : shZ.O w' B 3 vg t.ag := h.ag.keepS hk (fun b hb e => by obtain ⟨cs, hc⟩ := h.ag.tag b e; exact hne _ _ _ hc (by decide) hb)
  have hR' : MapS.M ktQ aV w' bm R := hR.kept ktQ hk (fun hm => by
    obtain ⟨cs', hc⟩ := hX0.tag bm (by simpa using hm)
    obtain ⟨es, c, hmm⟩ := hR.isMap
    rw [hc] at hmm; cases hmm)
  have hM : TrM w' B bt bm vo vh' vg { t with hist := t.hist ++ [a] } ∨ True := .inr trivial
  obtain ⟨hk2, hi2⟩ := Keeps.setT (o := 8) hblk vh'
  have hnv : vh'.ownBlock ≠ some bt := fun e => by
    obtain ⟨cs, hc⟩ := hO.tag bt e
    exact tag_ne hblk hc (by decide) rfl
  refine ⟨⟨?_, hop.keepS hk2 (by simpa using n2), ⟨X, hO.keepS hk2 (by simpa using hnv), hL.ki hi2⟩, hag.keepS hk2 (by simpa using n4), ⟨R, hR'.kept ktQ hk2 (by simpa using n1), (hRL.ki hi).ki hi2⟩, h.inv.take ha, h.bB⟩, hk2, hi, hi2⟩
  have := setCs hblk 8 vh'
  simpa [Tr.take] using this
/-- The map of the answers has a further one. -/
theorem setRec (h : TrM w B bt bm vo vh vg t) {a : Ans} {x : AnV} {R : List (Qn × AnV)} (hR : MapS.M ktQ aV w bm R) (hRL : LR w R t.rec') (ho : isOpen a.q t.qs = true) (hk : Keeps [bm] w w') (hM : MapS.M ktQ aV w' bm (R ++ [(a.q, x)])) (hx : InA w x a) (ha : a.Ok) (hkn : a.kn = true) :
    TrM w' B bt bm vo vh vg { t with qs := setQ a.q a t.qs } ∧ KI w w' := by
  have hm := isOpen_mem.1 ho
  have hq : a.q ∈ t.qs.map (·.1) := List.mem_map.2 ⟨_, hm, rfl⟩
  have hi : KI w w' := hk.ki (fun b hb cs f e => by
    simp at hb; subst hb
    obtain ⟨es, c, hmm⟩ := hR.isMap
    rw [hmm] at e; cases e)
  obtain ⟨X0, hX0, hX0L⟩ := h.hi
  have hne : ∀ (b : Nat) (cs : Array Value) (e : TypeId), w.heap[b]? = some (Obj.cells cs e (0, 0)) → b ≠ bm := fun b cs e hb h2 => by
    subst h2
    obtain ⟨es, c, hmm⟩ := hR.isMap
    rw [hmm] at hb; cases hb
  have inv2 : Tr.Inv { t with qs := setQ a.q a t.qs } := by
    have h2 := Tr.Inv.put (t := t) (a := { a with ins := [] }) h.inv ⟨ha.q, ha.ep, ha.lu, by simp, by simp⟩ hkn ho
    have hrk : ∀ p ∈ recOf (setQ a.q a t.qs), (p.1 = a.q ∧ p.2 = a) ∨ p ∈ t.rec' := fun p hp => by
      obtain ⟨k, b⟩ := p
      rcases (setQ_mem hq k (some b)).1 (recOf_keys.1 hp) with ⟨h1, h2⟩ | ⟨_, h2⟩
      · exact .inl ⟨h1, by simpa using h2⟩
      · exact .inr (recOf_keys.2 h2)
    refine ⟨?_, ?_, fun p hp => ?_, fun p hp => ?_, h.inv.hi, fun p hp => ?_⟩
    · simp only [Tr.op]; rw [setQ_keys]; exact h.inv.ok
    · simp only [Tr.op]; rw [setQ_keys]; exact h.inv.nd
    · rcases hrk p hp with ⟨h1, h2⟩ | h1
      · rw [h1, h2]
      · exact h.inv.rq p h1
    · rcases hrk p hp with ⟨h1, h2⟩ | h1
      · rw [h2]; exact hkn
      · exact h.inv.rk p h1
    · rcases hrk p hp with ⟨h1, h2⟩ | h1
      · rw [h2]; exact ha
      · exact h.inv.ro p h1
  refine ⟨⟨(hk.block bt h.lt.1 (by simpa using hne _ _ _ h.blk)).trans h.blk, ?_, ⟨X0, hX0.keepS hk (fun b hb e => ?_), hX0L.ki hi⟩, h.ag.keepS hk (fun b hb e => ?_), ⟨_, hM, ?_, fun q => ?_⟩, inv2, h.bB⟩, hi⟩
  · have : shQ.O w' B tQ vo t.op := h.op.keepS hk (fun b hb e => by simp at hb; subst hb; obtain ⟨cs, hc⟩ := h.op.tag _ e; exact hne _ _ _ hc rfl)
    simpa [Tr.op, setQ_keys] using this
  · simp at hb; subst hb; obtain ⟨cs, hc⟩ := hX0.tag _ e; exact hne _ _ _ hc rfl
  · simp at hb; subst hb; obtain ⟨cs, hc⟩ := h.ag.tag _ e; exact hne _ _ _ hc rfl
  · have := setQ_len (a := a) h.inv.nd hm
    simp only [Tr.rec']
    rw [this, List.length_append, hRL.1]; rfl
  · simp only [Tr.rec']
    rw [get_setQ h.inv.nd hq, MapS.get_append]
    by_cases e : q = a.q
    · subst e
      rw [if_pos rfl]
      rcases hRL.2 a.q with ⟨h1, h2⟩ | ⟨x', y', h1, h2, h3⟩
      · rw [h1]
        exact .inr ⟨x, a, by simp [MapS.get], rfl, hx.ki hi⟩
      · exfalso
        have := (get_rec h.inv.nd a.q y').1 h2
        have := nd_val h.inv.nd this hm
        cases this
    · rw [if_neg e]
      have e' : ¬ a.q = q := fun h => e h.symm
      rcases hRL.2 q with ⟨h1, h2⟩ | ⟨x', y', h1, h2, h3⟩
      · exact .inl ⟨by rw [h1]; simp [MapS.get, e'], h2⟩
      · exact .inr ⟨x', y', by rw [h1]; rfl, h2, h3.ki hi⟩
/-- A question is opened. -/
theorem setOpen (h : TrM w B bt bm vo vh vg t) {vo' : Value} {q : Qn} (hG : Grw w w' vo vo') (hO : shQ.O w' B tQ vo' (t.op ++ [q])) (hq : qOk q) (hn : q ∉ t.op) :
    TrM (w'.setCell ⟨bt, 5, none⟩ vo') B bt bm vo' vh vg { t with qs := t.qs ++ [(q, none)] } ∧ Keeps [bt] w' (w'.setCell ⟨bt, 5, none⟩ vo') ∧ KI w w' ∧ KI w' (w'.setCell ⟨bt, 5, none⟩ vo') := by
  obtain ⟨n1, n2, n3, n4⟩ := h.ne_bt
  obtain ⟨X0, hX0, hX0L⟩ := h.hi
  obtain ⟨R, hR, hRL⟩ := h.mp
  have hk := hG.keepsO
  have hi : KI w w' := hk.ki (fun b hb cs f e => by
    obtain ⟨cs', hc⟩ := h.op.tag b (by simpa using hb)
    exact tag_ne hc e (by decide) rfl)
  have hne : ∀ (e : TypeId) (b : Nat) (cs : Array Value), w.heap[b]? = some (Obj.cells cs e (0, 0)) → tQ ≠ e → b ∉ vo.ownBlock.toList := fun e b cs hb hn hm => by
    obtain ⟨cs', hc⟩ := h.op.tag b (by simpa using hm)
    exact tag_ne hc hb hn rfl
  have hblk : w'.heap[bt]? = _ := (hk.block bt h.lt.1 (hne _ _ _ h.blk (by decide))).trans h.blk
  have hhi : shA.O w' B tA vh X0 := hX0.keepS hk (fun b hb e => by obtain ⟨cs, hc⟩ := hX0.tag b e; exact hne _ _ _ hc (by decide) hb)
  have hag : shZ.O w' B 3 vg t.ag := h.ag.keepS hk (fun b hb e => by obtain ⟨cs, hc⟩ := h.ag.tag b e; exact hne _ _ _ hc (by decide) hb)
  have hR' : MapS.M ktQ aV w' bm R := hR.kept ktQ hk (fun hm => by
    obtain ⟨cs', hc⟩ := h.op.tag bm (by simpa using hm)
    obtain ⟨es, c, hmm⟩ := hR.isMap
    rw [hc] at hmm; cases hmm)
  obtain ⟨hk2, hi2⟩ := Keeps.setT (o := 5) hblk vo'
  have hnv : vo'.ownBlock ≠ some bt := fun e => by
    obtain ⟨cs, hc⟩ := hO.tag bt e
    exact tag_ne hblk hc (by decide) rfl
  have hrec : recOf (t.qs ++ [(q, none)]) = recOf t.qs := by unfold recOf; simp
  refine ⟨⟨?_, ?_, ⟨X0, hhi.keepS hk2 (by simpa using n3), (hX0L.ki hi).ki hi2⟩, hag.keepS hk2 (by simpa using n4), ⟨R, hR'.kept ktQ hk2 (by simpa using n1), ?_⟩, ?_, h.bB⟩, hk2, hi, hi2⟩
  · have := setCs hblk 5 vo'
    simpa using this
  · have := hO.keepS hk2 (by simpa using hnv)
    simpa [Tr.op] using this
  · simp only [Tr.rec']; rw [hrec]; exact (hRL.ki hi).ki hi2
  · refine ⟨fun p hp => ?_, ?_, ?_, ?_, h.inv.hi, ?_⟩
    · simp only [Tr.op, List.map_append, List.mem_append] at hp
      rcases hp with hp | hp
      · exact h.inv.ok p hp
      · simp at hp; subst hp; exact hq
    · simp only [Tr.op, List.map_append]
      rw [List.nodup_append]
      exact ⟨h.inv.nd, by simp, fun a ha b hb e => by simp at hb; subst hb; subst e; exact hn ha⟩
    · simp only [Tr.rec']; rw [hrec]; exact h.inv.rq
    · simp only [Tr.rec']; rw [hrec]; exact h.inv.rk
    · simp only [Tr.rec']; rw [hrec]; exact h.inv.ro
end TrM
/-- What a step leaves, and which blocks it then writes. -/
structure Mv (S S' : List Nat) (w w' : World) : Prop where
  k : Keeps S w w'
  i : KI w w'
  s : ∀ b ∈ S', b ∈ S ∨ w.heap.size ≤ b
theorem Mv.trans {S S' S'' : List Nat} {a b c : World} (h : Mv S S' a b) (g : Mv S' S'' b c) : Mv S S'' a c :=
  ⟨h.k.fresh g.k h.s, h.i.trans g.i, fun x hx => (g.s x hx).elim (h.s x) (fun hle => .inr (Nat.le_trans h.k.size hle))⟩
theorem Mv.nil {S : List Nat} {w w' : World} (h : Keeps [] w w') : Mv S S w w' := ⟨h.of_nil, h.ki0, fun _ hb => .inl hb⟩
namespace TrM
variable {w w' : World} {B bt bm : Nat} {vo vh vg : Value} {t : Tr}
theorem mvSet (h : TrM w B bt bm vo vh vg t) (o : Nat) (v : Value) : Mv (ownT bt bm vo vh vg) (ownT bt bm vo vh vg) w (w.setCell ⟨bt, o, none⟩ v) := by
  obtain ⟨hk, hi⟩ := Keeps.setT (o := o) h.blk v
  exact ⟨hk.mono (fun b hb => by simp at hb; subst hb; exact mem_ownT.2 (.inl rfl)), hi, fun _ hb => .inl hb⟩
theorem mvHist {vh' : Value} {X : List AnV} {a : Ans} (h : TrM w B bt bm vo vh vg t) (hG : Grw w w' vh vh') (hO : shA.O w' B tA vh' X) (hL : LA w' X (t.hist ++ [a])) (ha : a.Ok) :
    Mv (ownT bt bm vo vh vg) (ownT bt bm vo vh' vg) w (w'.setCell ⟨bt, 8, none⟩ vh') := by
  obtain ⟨_, hk, hi, hi2⟩ := h.setHist hG hO hL ha
  refine ⟨(hG.keepsO.mono (fun b hb => mem_ownT.2 (.inr (.inr (.inr (.inl (by simpa using hb))))))).trans (hk.mono (fun b hb => by simp at hb; subst hb; exact mem_ownT.2 (.inl rfl))), hi.trans hi2, fun b hb => ?_⟩
  rcases mem_ownT.1 hb with e | e | e | e | e
  · exact .inl (mem_ownT.2 (.inl e))
  · exact .inl (mem_ownT.2 (.inr (.inl e)))
  · exact .inl (mem_ownT.2 (.inr (.inr (.inl e))))
  · rcases hG.own with e2 | ⟨k, e2, hle⟩
    · exact .inl (mem_ownT.2 (.inr (.inr (.inr (.inl (e2 ▸ e))))))
    · rw [e2] at e; cases e; exact .inr hle
  · exact .inl (mem_ownT.2 (.inr (.inr (.inr (.inr e)))))
theorem mvRec {a : Ans} {x : AnV} {R : List (Qn × AnV)} (h : TrM w B bt bm vo vh vg t) (hR : MapS.M ktQ aV w bm R) (hRL : LR w R t.rec') (ho : isOpen a.q t.qs = true) (hk : Keeps [bm] w w') (hM : MapS.M ktQ aV w' bm (R ++ [(a.q, x)])) (hx : InA w x a) (ha : a.Ok) (hkn : a.kn = true) :
    Mv (ownT bt bm vo vh vg) (ownT bt bm vo vh vg) w w' := 
  ⟨hk.mono (fun b hb => by simp at hb; subst hb; exact mem_ownT.2 (.inr (.inl rfl))), (h.setRec hR hRL ho hk hM hx ha hkn).2, fun _ hb => .inl hb⟩
theorem mvOpen {vo' : Value} {q : Qn} (h : TrM w B bt bm vo vh vg t) (hG : Grw w w' vo vo') (hO : shQ.O w' B tQ vo' (t.op ++ [q])) (hq : qOk q) (hn : q ∉ t.op) :
    Mv (ownT bt bm vo vh vg) (ownT bt bm vo' vh vg) w (w'.setCell ⟨bt, 5, none⟩ vo') := by
  obtain ⟨_, hk, hi, hi2⟩ := h.setOpen hG hO hq hn
  refine ⟨(hG.keepsO.mono (fun b hb => mem_ownT.2 (.inr (.inr (.inl (by simpa using hb)))))).trans (hk.mono (fun b hb => by simp at hb; subst hb; exact mem_ownT.2 (.inl rfl))), hi.trans hi2, fun b hb => ?_⟩
  rcases mem_ownT.1 hb with e | e | e | e | e
  · exact .inl (mem_ownT.2 (.inl e))
  · exact .inl (mem_ownT.2 (.inr (.inl e)))
  · rcases hG.own with e2 | ⟨k, e2, hle⟩
    · exact .inl (mem_ownT.2 (.inr (.inr (.inl (e2 ▸ e)))))
    · rw [e2] at e; cases e; exact .inr hle
  · exact .inl (mem_ownT.2 (.inr (.inr (.inr (.inl e)))))
  · exact .inl (mem_ownT.2 (.inr (.inr (.inr (.inr e)))))
end TrM
end Go.Proofs.YtiplgpefapeapaaGreat

namespace Go.Proofs.YtiplgpefapeapaaGreat
open Go.RowKit

/-- The cells of an answer that comes in say this answer. -/
structure InR (w : World) (x : AnV) (y : Ans) : Prop where
  m : x.m = y.m
  ow : x.ow = y.ow
  n : x.n = y.n
  ep : x.ep = y.ep
  kn : x.kn = y.kn
  rt : x.rt = y.rt
  lu : x.lu = y.lu
  ins : shT.R w x.v y.ins
theorem Sh.R.keepE {α : Type} {s : Sh α} {w w' : World} {v : Value} {L : List α} {S : List Nat} (h : s.R w v L) (hk : Keeps S w w') (hS : ∀ b ∈ S, L ≠ [] → v.ownBlock ≠ some b) : s.R w' v L := by
  by_cases e : L = []
  · subst e
    obtain ⟨h1, a, cap, rfl, h2, h3, h0, _⟩ := h
    exact ⟨h1, a, cap, rfl, h2, h3, h0, fun hp => by simp [Sh.cs] at hp⟩
  · exact h.keepS hk (fun b hb => hS b hb e)
def AnsPost (w : World) (B bt bm : Nat) (vo vh vg : Value) (r : Tr × Int) (e : Ending) (w' : World) : Prop :=
  ∃ vo' vh', e = .returned (.int .i64 r.2) ∧ TrM w' B bt bm vo' vh' vg r.1 ∧ Mv (ownT bt bm vo vh vg) (ownT bt bm vo' vh' vg) w w'
theorem InR.keep {w w' : World} {x : AnV} {y : Ans} {S : List Nat} (h : InR w x y) (hk : Keeps S w w') (hS : ∀ b ∈ S, x.v.ownBlock ≠ some b) : InR w' x y := ⟨h.m, h.ow, h.n, h.ep, h.kn, h.rt, h.lu, h.ins.keepS hk hS⟩
theorem keepsP_remade {S : Nat → Prop} (w : World) (A B : Obj) (hS : S w.heap.size) : Free.KeepsP S (w.alloc A) (w.alloc B) :=
  ⟨rfl, rfl, rfl, by simp, fun k hk hn => by
    have hk' : k < w.heap.size + 1 := by simpa using hk
    have hne : k ≠ w.heap.size := fun e => hn (e ▸ hS)
    rw [Below.heap_alloc _ _ _ (by omega), Below.heap_alloc _ _ _ (by omega)]⟩
theorem Free.KeepsP.drews {S : Nat → Prop} {a b : World} (h : Free.KeepsP S a b) : Free.KeepsP S a.drew b.drew := ⟨h.os, h.tape, h.output, h.size, h.block⟩
/-- What the map of the answers says of a question. -/
theorem LR.open {w : World} {R : List (Qn × AnV)} {t : Tr} {q : Qn} (h : LR w R t.rec') (hnd : t.op.Nodup) : ((MapS.get q R).isSome = true → isOpen q t.qs = false) ∧ ((MapS.get q R).isSome = false → isOpen q t.qs = decide (q ∈ t.op)) := by
  constructor
  · intro hs
    rcases h.2 q with ⟨h1, _⟩ | ⟨x, y, h1, h2, _⟩
    · rw [h1] at hs; cases hs
    · have hm := (get_rec hnd q y).1 h2
      cases ho : isOpen q t.qs with
      | false => rfl
      | true => have := nd_val hnd hm (isOpen_mem.1 ho); cases this
  · intro hs
    rcases h.2 q with ⟨h1, h2⟩ | ⟨x, y, h1, h2, _⟩
    · unfold isOpen
      rw [decide_eq_decide]
      constructor
      · exact fun hm => List.mem_map.2 ⟨_, hm, rfl⟩
      · intro hm
        obtain ⟨⟨k, u⟩, hm2, rfl⟩ := List.mem_map.1 hm
        cases u with
        | none => exact hm2
        | some b => rw [show MapS.get (k, some b).1 t.rec' = _ from (get_rec hnd k b).2 hm2] at h2; cases h2
    · rw [h1] at hs; cases hs
theorem TrM.histKI {w w' : World} {B bt bm : Nat} {vo vh vg vh' : Value} {t : Tr} (h : TrM w B bt bm vo vh vg t) (hG : Grw w w' vh vh') : KI w w' := by
  obtain ⟨X0, hX0, hX0L⟩ := h.hi
  exact hG.keepsO.ki (fun b hb cs f e => by
    obtain ⟨cs', hc⟩ := hX0.tag b (by simpa using hb)
    exact tag_ne hc e (by decide) rfl)
theorem LA.any {w : World} {m ep : Int} : ∀ {X : List AnV} {Y : List Ans}, LA w X Y → Y.any (Ans.odd m ep) = X.any (AnV.odd m ep)
  | [], [], _ => rfl
  | [], _ :: _, h => by have := h.1; simp at this
  | _ :: _, [], h => by have := h.1; simp at this
  | x :: X, y :: Y, h => by
    have ih := LA.any (X := X) (Y := Y) (m := m) (ep := ep) ⟨by have := h.1; simpa using this, fun k a b ha hb => h.2 (k + 1) a b (by simpa using ha) (by simpa using hb)⟩
    have h0 := h.2 0 x y rfl rfl
    rw [List.any_cons, List.any_cons, ih, Ans.odd, AnV.odd, h0.m, h0.ep]
/-- A trace whose answer is half in. -/
def Tr.mid (t : Tr) (a : Ans) (k : Nat) : Tr := { t.take a with qs := (a.ins.take k).foldl (openQ a.m) (setQ a.q a t.qs) }
theorem Tr.mid_all (t : Tr) (a : Ans) : t.mid a a.ins.length = (t.take a).put a := by unfold Tr.mid Tr.put; rw [List.take_length]; rfl
theorem Tr.mid_op (t : Tr) (a : Ans) (k : Nat) (h : t.qs.length + a.ins.length ≤ 1000) : (t.mid a k).op.length ≤ 1000 := by
  have h1 := fold_len a.m (a.ins.take k) (setQ a.q a t.qs)
  have h2 : (setQ a.q a t.qs).length = t.qs.length := by unfold setQ; simp
  have h3 : (a.ins.take k).length ≤ a.ins.length := by simp; omega
  unfold Tr.op Tr.mid
  simp only [List.length_map]
  omega
theorem Tr.mid_succ (t : Tr) (a : Ans) (k : Nat) (hk : k < a.ins.length) : t.mid a (k + 1) = { t.mid a k with qs := openQ a.m (t.mid a k).qs a.ins[k] } := by
  unfold Tr.mid
  rw [List.take_succ_eq_append_getElem hk, List.foldl_append]; rfl
theorem Tr.mid_old (t : Tr) (a : Ans) (k : Nat) (hk : k < a.ins.length) (h : (a.ins[k].1, a.m, a.ins[k].2.1) ∈ (t.mid a k).op) : t.mid a (k + 1) = t.mid a k := by
  rw [Tr.mid_succ t a k hk, show openQ a.m (t.mid a k).qs a.ins[k] = (t.mid a k).qs from if_pos h]
theorem Tr.mid_new (t : Tr) (a : Ans) (k : Nat) (hk : k < a.ins.length) (h : (a.ins[k].1, a.m, a.ins[k].2.1) ∉ (t.mid a k).op) : t.mid a (k + 1) = { t.mid a k with qs := (t.mid a k).qs ++ [((a.ins[k].1, a.m, a.ins[k].2.1), none)] } := by
  rw [Tr.mid_succ t a k hk, show openQ a.m (t.mid a k).qs a.ins[k] = _ from if_neg h]
set_option maxRecDepth 100000 in
set_option maxHeartbeats 10000000 in
theorem answer_c (w : World) (B bt bm : Nat) (vo vh vg : Value) (t : Tr) (x : AnV) (a : Ans) (h : TrM w B bt bm vo vh vg t) (hx : InR w x a) (ha : a.Ok) (hsep : ∀ b ∈ ownT bt bm vo vh vg, a.ins ≠ [] → x.v.ownBlock ≠ some b)
    (hB : B ≤ w.heap.size) (hl1 : t.hist.length ≤ 100000) (hl2 : t.qs.length + a.ins.length ≤ 1000) :
    Calls Tryz.prog 15 #[.pointer (some ⟨bt, 0, none⟩), aV x] w (AnsPost w B bt bm vo vh vg (t.answer a)) := by
  obtain ⟨X0, hX0⟩ : ∃ X, w.heap.size = X := ⟨_, rfl⟩
  obtain ⟨ao, co, rfl⟩ := h.op.form
  obtain ⟨ah, ch, rfl⟩ : ∃ a c, vh = .slice a t.hist.length c := by
    obtain ⟨X, hX, hXL⟩ := h.hi
    obtain ⟨a, c, e⟩ := hX.form
    exact ⟨a, c, by rw [e, hXL.1]⟩
  obtain ⟨LO, hLO⟩ : ∃ n, t.op.length = n := ⟨_, rfl⟩
  obtain ⟨LH, hLH⟩ : ∃ n, t.hist.length = n := ⟨_, rfl⟩
  rw [hLO, hLH] at h hsep ⊢
  replace hLO := Lib.hid hLO
  replace hLH := Lib.hid hLH
  obtain ⟨x0, x1, x2, x3, x4, x5, x6, x7, x8, x9⟩ := x
  obtain ⟨i1, i2, i3, i4, i5, i6, i7, hI⟩ := hx
  simp only [AnV.v] at i1 i2 i3 i4 i5 i6 i7 hI hsep
  subst i1 i2 i3 i4 i5 i6 i7
  have hkA : Keeps [] w (w.alloc (.cells #[.int .i64 a.m, .int .i64 a.ow, .int .u64 a.n, .int .i64 a.ep, .bool a.kn, .bool a.rt, .int .i64 a.lu, .slice x7 x8 x9] tA)) := (Keeps.refl _ _).alloc _
  have hb0 := heap_alloc_new w (.cells #[.int .i64 a.m, .int .i64 a.ow, .int .u64 a.n, .int .i64 a.ep, .bool a.kn, .bool a.rt, .int .i64 a.lu, .slice x7 x8 x9] tA)
  have hzA : (w.alloc (.cells #[.int .i64 a.m, .int .i64 a.ow, .int .u64 a.n, .int .i64 a.ep, .bool a.kn, .bool a.rt, .int .i64 a.lu, .slice x7 x8 x9] tA)).heap.size = w.heap.size + 1 := by simp
  have hA := h.keeps hkA
  have hIA := hI.keeps hkA
  obtain ⟨c0, c1, c2, c3, c4, c5, c6, c7, c8, c9, c10, c11⟩ := hA.cells
  have hlt := hA.lt
  have hlt0 := h.lt
  have hown0 : ∀ b ∈ ownT bt bm (.slice ao LO co) (.slice ah LH ch) vg, b < X0 := fun b hb => by have := (h.own_tag hb).2.1; omega
  replace hown0 := Lib.hid hown0
  simp only [aV, AnV.v]
  by_cases hs : t.state = 0
  case neg =>
    have hs1 : (t.state != 0) = true := by simpa using hs
    have hr : t.answer a = (t, 9) := by unfold Tr.answer; rw [if_pos hs]
    rw [hr]
    replace hs := Lib.hid hs
    replace hr := Lib.hid hr
    replace hA := Lib.hid hA
    replace hkA := Lib.hid hkA
    clear hb0 h hI hIA hsep c0 c1 c2 c3 c4 c5 c6 c7 c8 c10 c11
    go_enter Tryz.func15, Tryz.ntmps15
    go_wp2
    go_ret
    exact ⟨_, _, rfl, hA.out, .nil hkA.out⟩
  case pos =>
    rw [hs] at c9
    obtain ⟨R, hR, hRL⟩ := hA.mp
    obtain ⟨y0, y1, y2, y3, y4, y5, y6, y7, yf, ylt⟩ := cells8 hb0
    have hq0 : qOk a.q := ha.q
    rw [hX0] at hzA hb0 y0 y1 y2 y3 y4 y5 y6 y7 yf ylt hlt0
    have hlook := fun (w' : World) (hb : w'.heap[bm]? = (w.alloc (.cells #[.int .i64 a.m, .int .i64 a.ow, .int .u64 a.n, .int .i64 a.ep, .bool a.kn, .bool a.rt, .int .i64 a.lu, .slice x7 x8 x9] tA)).heap[bm]?) => MapS.M.look_ok ktQ (k := a.q) Tryz.underlying97 (aV .zero) zeroA (hR.at' hb) hq0
    obtain ⟨xv, hxv⟩ : ∃ xv : AnV, ((MapS.get a.q R).map aV).getD (aV .zero) = aV xv := by
      cases MapS.get a.q R with
      | none => exact ⟨_, rfl⟩
      | some u => exact ⟨u, rfl⟩
    obtain ⟨rb, hrb⟩ : ∃ rb, (MapS.get a.q R).isSome = rb := ⟨_, rfl⟩
    rw [hxv, hrb] at hlook
    obtain ⟨v0, v1, v2, v3, v4, v5, v6, v7, v8, v9⟩ := xv
    simp only [ktQ, qV, Ans.q, aV, AnV.v] at hlook
    replace hxv := Lib.hid hxv
    replace hrb := Lib.hid hrb
    replace hA := Lib.hid hA
    replace hkA := Lib.hid hkA
    replace hb0 := Lib.hid hb0
    replace hR := Lib.hid hR
    replace hRL := Lib.hid hRL
    replace hIA := Lib.hid hIA
    replace hs := Lib.hid hs
    replace hq0 := Lib.hid hq0
    replace hlook := Lib.hid hlook
    replace hX0 := Lib.hid hX0
    replace hsep := Lib.hid hsep
    clear h hI
    go_enter Tryz.func15, Tryz.ntmps15
    go_wp2
    generalize (w.alloc (.cells #[.int .i64 a.m, .int .i64 a.ow, .int .u64 a.n, .int .i64 a.ep, .bool a.kn, .bool a.rt, .int .i64 a.lu, .slice x7 x8 x9] tA)) = W at *
    rw [hX0.out]
    have hkB : Keeps [] W (W.alloc (.cells #[.int .i64 a.m, .int .i64 a.ow, .int .u64 a.n] tQ)) := (Keeps.refl _ _).alloc _
    have hbq := heap_alloc_new W (.cells #[.int .i64 a.m, .int .i64 a.ow, .int .u64 a.n] tQ)
    have hzB : (W.alloc (.cells #[.int .i64 a.m, .int .i64 a.ow, .int .u64 a.n] tQ)).heap.size = W.heap.size + 1 := by simp
    have hb01 := (hkB.block X0 (by omega) (by simp)).trans hb0.out
    have hA1 := hA.out.keeps hkB
    have hIA1 := hIA.out.keeps hkB
    have hR1 := hR.out.keeps ktQ hkB
    have hRL1 := hRL.out.ki hkB.ki0
    have hkAB := hkA.out.trans hkB
    have hbm1 := hkB.block bm hlt.2 (by simp)
    have hlook1 := fun (w' : World) hb => hlook.out w' (Eq.trans hb hbm1)
    generalize (W.alloc (.cells #[.int .i64 a.m, .int .i64 a.ow, .int .u64 a.n] tQ)) = W1 at *
    rw [hzA] at hbq hzB
    obtain ⟨d0, d1, d2, d3, d4, d5, d6, d7, d8, d9, d10, d11⟩ := hA1.cells
    rw [hs.out] at d9
    obtain ⟨y0, y1, y2, y3, y4, y5, y6, y7, yf, ylt⟩ := cells8 hb01
    obtain ⟨r0, r1, r2⟩ := cells3t hbq
    have hlt1 := hA1.lt
    replace hA1 := Lib.hid hA1
    replace hIA1 := Lib.hid hIA1
    replace hR1 := Lib.hid hR1
    replace hRL1 := Lib.hid hRL1
    replace hkAB := Lib.hid hkAB
    replace hlook1 := Lib.hid hlook1
    replace hbq := Lib.hid hbq
    replace hb01 := Lib.hid hb01
    clear hb0 hA hIA hR hRL hkA hkB hlook hbm1 hlt c0 c1 c2 c3 c4 c5 c6 c7 c8 c9 c10 c11 hzA
    refine Free.wp_region_chain (fun i => i == 9 || i == 10) (fun i => true) (fun j b => j = 10 ∧ W1.heap.size ≤ b) (by kernel_rfl) (by kernel_rfl) (by kernel_rfl) ?_
    (repeat (first | (apply Free.cw_pure rfl rfl; (intro w'; go_simp <;> exact rfl); go_frame) | (apply Free.cw_steady rfl rfl rfl; (intro w' hS2; have z0 := Free.sx_cell hS2 d7 (fun _ _ hT => by omega); have z1 := Free.sx_cell hS2 r0 (fun _ _ hT => by omega); have z2 := Free.sx_cell hS2 r1 (fun _ _ hT => by omega); have z3 := Free.sx_cell hS2 r2 (fun _ _ hT => by omega); have z5 := hlook1.out w' (hS2.block bm hlt1.2 (fun ⟨_, _, _, hT⟩ => by omega)); go_simp <;> exact rfl); go_frame)))
    refine Free.cw_loud rfl rfl (fun K hK => ?_)
    go_wp2
    refine hK _ _ rfl (Free.KeepsP.alloc _ _ _) ?_
    clear hK K
    (repeat (apply Free.cw_pure rfl rfl; (intro w'; go_simp <;> exact rfl); go_frame))
    refine Free.cw_loud rfl rfl (fun K hK => ?_)
    go_wp2
    refine hK _ _ rfl (keepsP_remade (S := fun b => True ∧ W1.heap.size ≤ b) W1 _ _ ⟨trivial, Nat.le_refl _⟩).drews ?_
    clear hK K
    (repeat (apply Free.cw_pure rfl rfl; (intro w'; go_simp <;> exact rfl); go_frame))
    refine Free.cw_nil ?_
    have hkC : Keeps [] W1 ((W1.alloc (.cells #[.int .i64 v0, .int .i64 v1, .int .u64 v2, .int .i64 v3, .bool v4, .bool v5, .int .i64 v6, .slice v7 v8 v9] tA)).drew) := ((Keeps.refl _ _).alloc _).drew
    have hb02 := (hkC.block X0 (by omega) (by simp)).trans hb01.out
    have hbq2 := (hkC.block (X0 + 1) (by omega) (by simp)).trans hbq.out
    have hA2 := hA1.out.keeps hkC
    have hIA2 := hIA1.out.keeps hkC
    have hR2 := hR1.out.keeps ktQ hkC
    have hRL2 := hRL1.out.ki hkC.ki0
    have hk02 := hkAB.out.trans hkC
    have hz2 : ((W1.alloc (.cells #[.int .i64 v0, .int .i64 v1, .int .u64 v2, .int .i64 v3, .bool v4, .bool v5, .int .i64 v6, .slice v7 v8 v9] tA)).drew).heap.size = X0 + 3 := by simp [hzB]
    generalize ((W1.alloc (.cells #[.int .i64 v0, .int .i64 v1, .int .u64 v2, .int .i64 v3, .bool v4, .bool v5, .int .i64 v6, .slice v7 v8 v9] tA)).drew) = W2 at *
    obtain ⟨d0, d1, d2, d3, d4, d5, d6, d7, d8, d9, d10, d11⟩ := hA2.cells
    rw [hs.out] at d9
    obtain ⟨y0, y1, y2, y3, y4, y5, y6, y7, yf, ylt⟩ := cells8 hb02
    obtain ⟨r0, r1, r2⟩ := cells3t hbq2
    have hlt2 := hA2.lt
    obtain ⟨hop1, hop2⟩ := hRL2.open (q := a.q) hA2.inv.nd
    rw [hrb.out] at hop1 hop2
    replace hA2 := Lib.hid hA2
    replace hIA2 := Lib.hid hIA2
    replace hR2 := Lib.hid hR2
    replace hRL2 := Lib.hid hRL2
    replace hk02 := Lib.hid hk02
    replace hbq2 := Lib.hid hbq2
    replace hb02 := Lib.hid hb02
    replace hop1 := Lib.hid hop1
    replace hop2 := Lib.hid hop2
    clear hb01 hbq hA1 hIA1 hR1 hRL1 hkAB hlook1 hkC hlt1 hzB
    cases rb with
    | true =>
      have hr : t.answer a = (t, 6) := by unfold Tr.answer; rw [if_neg (by simp [hs.out]), if_pos (hop1.out rfl)]
      replace hr := Lib.hid hr
      go_wp2
      refine Free.wp_region_chain (fun i => i == 7) (fun i => true) (fun _ _ => False) (by kernel_rfl) (by kernel_rfl) (by kernel_rfl) ?_
      (repeat (first | (apply Free.cw_pureW rfl rfl; (intro w'; go_simp <;> exact rfl); go_frame) | (apply Free.cw_steadyW rfl rfl rfl; (intro w' hS; have q0 := Free.sx_cell hS d5 (fun _ _ hT => hT); go_simp <;> exact rfl); go_frame) | (refine Free.cw_skip rfl ?_; go_frame)))
      refine Free.cw_nil ?_
      go_wp2
      go_ret
      rw [hr.out]
      exact ⟨_, _, rfl, hA2.out.keeps ((Keeps.refl _ _).drew), .nil hk02.out.drew⟩
    | false =>
      have hcon := fun (W : World) (hk : Keeps [] W2 W) => containsQ_c W _ t.op a.q (hA2.out.op.r.keeps hk)
      obtain ⟨ib, hib⟩ : ∃ ib, decide (a.q ∈ t.op) = ib := ⟨_, rfl⟩
      rw [hib] at hcon
      simp only [qV, Ans.q] at hcon
      have hof : isOpen a.q t.qs = ib := (hop2.out rfl).trans hib
      replace hib := Lib.hid hib
      replace hof := Lib.hid hof
      replace hcon := Lib.hid hcon
      go_wp2
      refine Free.wp_region_chain (fun i => i == 7) (fun i => true) (fun _ _ => False) (by kernel_rfl) (by kernel_rfl) (by kernel_rfl) ?_
      (repeat (first | (apply Free.cw_pureW rfl rfl; (intro w'; go_simp <;> exact rfl); go_frame) | (apply Free.cw_steadyW rfl rfl rfl; (intro w' hS; have q0 := Free.sx_cell hS d5 (fun _ _ hT => hT); have q1 := Free.sx_cell hS r0 (fun _ _ hT => hT); have q2 := Free.sx_cell hS r1 (fun _ _ hT => hT); have q3 := Free.sx_cell hS r2 (fun _ _ hT => hT); go_simp <;> exact rfl); go_frame) | (refine Free.cw_skip rfl ?_; go_frame)))
      refine Free.cw_loudW rfl rfl (fun K hK => ?_)
      go_wp2_with fail
      refine (hcon.out _ ((Keeps.refl [] _).drew)).mono ?_
      rintro e w3 ⟨rfl, hk3⟩
      refine hK _ _ rfl (Free.KeepsP.of hk3 (by simp)) ?_
      clear hK K
      (repeat (first | (apply Free.cw_pureW rfl rfl; (intro w'; go_simp <;> exact rfl); go_frame) | (apply Free.cw_steadyW rfl rfl rfl; (intro w' hS; have q0 := Free.sx_cell hS d5 (fun _ _ hT => hT); have q1 := Free.sx_cell hS r0 (fun _ _ hT => hT); have q2 := Free.sx_cell hS r1 (fun _ _ hT => hT); have q3 := Free.sx_cell hS r2 (fun _ _ hT => hT); go_simp <;> exact rfl); go_frame) | (refine Free.cw_skip rfl ?_; go_frame)))
      refine Free.cw_nil ?_
      have hk23 : Keeps [] W2 w3 := ((Keeps.refl [] W2).drew).trans hk3
      have hb03 := (hk23.block X0 ylt (by simp)).trans hb02.out
      have hbq3 := (hk23.block (X0 + 1) (by omega) (by simp)).trans hbq2.out
      have hA3 := hA2.out.keeps hk23
      have hIA3 := hIA2.out.keeps hk23
      have hR3 := hR2.out.keeps ktQ hk23
      have hRL3 := hRL2.out.ki hk23.ki0
      have hk03 := hk02.out.trans hk23
      have hz3 := hk23.size
      rw [hz2] at hz3
      obtain ⟨d0, d1, d2, d3, d4, d5, d6, d7, d8, d9, d10, d11⟩ := hA3.cells
      rw [hs.out] at d9
      obtain ⟨y0, y1, y2, y3, y4, y5, y6, y7, yf, ylt⟩ := cells8 hb03
      obtain ⟨r0, r1, r2⟩ := cells3t hbq3
      have hlt3 := hA3.lt
      have hfr := hA3.free
      replace hA3 := Lib.hid hA3
      replace hIA3 := Lib.hid hIA3
      replace hR3 := Lib.hid hR3
      replace hRL3 := Lib.hid hRL3
      replace hk03 := Lib.hid hk03
      replace hbq3 := Lib.hid hbq3
      replace hb03 := Lib.hid hb03
      clear hb02 hbq2 hA2 hIA2 hR2 hRL2 hk02 hk23 hk3 hlt2 hz2 hop1 hop2 hcon
      cases ib with
      | false =>
        have hr : t.answer a = (t, 6) := by unfold Tr.answer; rw [if_neg (by simp [hs.out]), if_pos hof.out]
        replace hr := Lib.hid hr
        go_wp2
        go_ret
        rw [hr.out]
        exact ⟨_, _, rfl, hA3.out, .nil hk03.out⟩
      | true =>
        have hvX : ∀ b, (Value.slice ah LH ch).ownBlock = some b → b < X0 ∧ b ≠ bt := fun b hb => ⟨hown0.out b (mem_ownT.2 (.inr (.inr (.inr (.inl hb))))), fun e => hA3.out.ne_bt.2.2.1 (e ▸ hb)⟩
        replace hvX := Lib.hid hvX
        have hcop := fun (W : World) (hk : Keeps [] w3 W) => copied_c W ⟨a.m, a.ow, a.n, a.ep, a.kn, a.rt, a.lu, x7, x8, x9⟩ a.ins (hIA3.out.keeps hk) (by have := ha.len; omega)
        simp only [aV, AnV.v] at hcop
        replace hcop := Lib.hid hcop
        go_wp2
        refine Free.wp_region_chain (fun i => i == 6 || i == 7 || i == 8 || i == 11) (fun i => true) (fun j b => (j = 8 ∧ (Value.slice ah LH ch).ownBlock = some b) ∨ (j = 11 ∧ b = bt)) (by kernel_rfl) (by kernel_rfl) (by kernel_rfl) ?_
        (repeat (first | (apply Free.cw_pure rfl rfl; (intro w'; go_simp <;> exact rfl); go_frame) | (apply Free.cw_steady rfl rfl rfl; (intro w' hS; have q0 := Free.sx_cell hS d8 (fun j hp hT => Or.elim hT (fun h => (hvX.out _ h.2).2 rfl) (fun h => by obtain ⟨rfl, _⟩ := h; exact absurd hp (by decide +kernel))); have q1 := Free.sx_cell hS y0 (fun j hp hT => Or.elim hT (fun h => by have := (hvX.out _ h.2).1; omega) (fun h => by have := h.2; omega)); have q2 := Free.sx_cell hS y1 (fun j hp hT => Or.elim hT (fun h => by have := (hvX.out _ h.2).1; omega) (fun h => by have := h.2; omega)); have q3 := Free.sx_cell hS y2 (fun j hp hT => Or.elim hT (fun h => by have := (hvX.out _ h.2).1; omega) (fun h => by have := h.2; omega)); have q4 := Free.sx_cell hS y3 (fun j hp hT => Or.elim hT (fun h => by have := (hvX.out _ h.2).1; omega) (fun h => by have := h.2; omega)); have q5 := Free.sx_cell hS y4 (fun j hp hT => Or.elim hT (fun h => by have := (hvX.out _ h.2).1; omega) (fun h => by have := h.2; omega)); have q6 := Free.sx_cell hS y5 (fun j hp hT => Or.elim hT (fun h => by have := (hvX.out _ h.2).1; omega) (fun h => by have := h.2; omega)); have q7 := Free.sx_cell hS y6 (fun j hp hT => Or.elim hT (fun h => by have := (hvX.out _ h.2).1; omega) (fun h => by have := h.2; omega)); have q8 := Free.sx_cell hS y7 (fun j hp hT => Or.elim hT (fun h => by have := (hvX.out _ h.2).1; omega) (fun h => by have := h.2; omega)); go_simp <;> exact rfl); go_frame) | (refine Free.cw_skip rfl ?_; go_frame)))
        refine Free.cw_loud rfl rfl (fun K hK => ?_)
        go_wp2_with fail
        refine (hcop.out _ ((Keeps.refl [] _).drew)).mono ?_
        rintro e w4 ⟨⟨z0, z1, z2, z3, z4, z5, z6, z7, z8, z9⟩, rfl, f0, f1, f2, f3, f4, f5, f6, hIO, hk4⟩
        simp only at f0 f1 f2 f3 f4 f5 f6
        subst f0 f1 f2 f3 f4 f5 f6
        refine hK _ _ rfl (Free.KeepsP.of hk4 (by simp)) ?_
        clear hK K
        simp only [AnV.v] at hIO
        have hk34 : Keeps [] w3 w4 := ((Keeps.refl [] w3).drew).trans hk4
        replace hIO := Lib.hid hIO
        clear hk4 hcop
        (repeat (apply Free.cw_pure rfl rfl; (intro w'; go_simp <;> exact rfl); go_frame))
        refine Free.cw_loud rfl rfl (fun K hK => ?_)
        go_wp2
        refine hK _ _ rfl (Free.KeepsP.alloc _ _ _) ?_
        clear hK K
        (repeat (apply Free.cw_pure rfl rfl; (intro w'; go_simp <;> exact rfl); go_frame))
        refine Free.cw_loud rfl rfl (fun K hK => ?_)
        obtain ⟨X, hX, hXL⟩ := hA3.out.hi
        have hX4 := hX.keeps (hk34.alloc (.cells #[.int .i64 a.m, .int .i64 a.ow, .int .u64 a.n, .int .i64 a.ep, .bool a.kn, .bool a.rt, .int .i64 a.lu, .slice z7 z8 z9] tA))
        have hA4 := hA3.out.keeps (hk34.alloc (.cells #[.int .i64 a.m, .int .i64 a.ow, .int .u64 a.n, .int .i64 a.ep, .bool a.kn, .bool a.rt, .int .i64 a.lu, .slice z7 z8 z9] tA))
        have hmade := Sh.O.one shA w4 (⟨a.m, a.ow, a.n, a.ep, a.kn, a.rt, a.lu, z7, z8, z9⟩ : AnV) #[.int .i64 a.m, .int .i64 a.ow, .int .u64 a.n, .int .i64 a.ep, .bool a.kn, .bool a.rt, .int .i64 a.lu, .slice z7 z8 z9] tA 0 rfl (by omega)
        have hlen := hLH.out
        have hXl := hXL.1
        have hlB := hA3.out.bB.1
        refine Sh.wp_app shA B infoA rfl Tryz.underlying29 (.slice ah LH ch) (.slice (some ⟨w4.heap.size, 0, none⟩) 1 1) X [(⟨a.m, a.ow, a.n, a.ep, a.kn, a.rt, a.lu, z7, z8, z9⟩ : AnV)] _ _ rfl rfl rfl hX4 hmade.r (by simp only [List.length_cons, List.length_nil]; omega) (by have := hk34.size; simp; omega) ?_
        intro v5 w5 hO5 hG5
        obtain ⟨a5, q5, rfl⟩ := hO5.form
        obtain ⟨N5, hN5⟩ : ∃ n, (X ++ [(⟨a.m, a.ow, a.n, a.ep, a.kn, a.rt, a.lu, z7, z8, z9⟩ : AnV)]).length = n := ⟨_, rfl⟩
        rw [hN5] at hO5 hG5 ⊢
        replace hN5 := Lib.hid hN5
        refine hK _ _ rfl (Free.KeepsP.of hG5.keepsO (fun b hb => .inl ⟨rfl, by simpa using hb⟩)) ?_
        clear hK K
        have hi45 := hA4.histKI hG5
        have hL5 := (hXL.ki ((hk34.alloc _).ki0.trans hi45)).snoc (x := ⟨a.m, a.ow, a.n, a.ep, a.kn, a.rt, a.lu, z7, z8, z9⟩) (y := a) ⟨rfl, rfl, rfl, rfl, rfl, rfl, rfl, (hIO.out.ki ((((Keeps.refl [] w4).alloc _).ki0).trans hi45))⟩
        obtain ⟨hT6, hk56, _, hi56⟩ := hA4.setHist hG5 hO5 hL5 ha
        have hmv := (Mv.nil (S := ownT bt bm (.slice ao LO co) (.slice ah LH ch) vg) (hk34.alloc (.cells #[.int .i64 a.m, .int .i64 a.ow, .int .u64 a.n, .int .i64 a.ep, .bool a.kn, .bool a.rt, .int .i64 a.lu, .slice z7 z8 z9] tA))).trans (hA4.mvHist hG5 hO5 hL5 ha)
        have hb5 := (hG5.keepsO.block bt hA4.lt.1 (by simpa using hA4.ne_bt.2.2.1)).trans hA4.blk
        have hlt5 := lt_of_blk hb5
        have c58 : ∃ u, w5.cell? ⟨bt, 8, none⟩ = some u := by rw [World.cell?, hb5]; exact ⟨_, rfl⟩
        have c5f : ∀ o, w5.frozen? ⟨bt, o, none⟩ = false := fun o => by simp [World.frozen?, hb5]
        obtain ⟨u8, c58⟩ := c58
        have hkx := hmv.k
        have hnX : ∀ k, X0 ≤ k → k ∉ ownT bt bm (.slice ao LO co) (.slice ah LH ch) vg := fun k hk hm => by have := hown0.out k hm; omega
        have hb06 := (hkx.block X0 ylt (hnX _ (Nat.le_refl _))).trans hb03.out
        have hbq6 := (hkx.block (X0 + 1) (lt_of_blk hbq3.out) (hnX _ (by omega))).trans hbq3.out
        have hIA6 := hIA3.out.keepE hkx (fun b hb => hsep.out b hb)
        have hz6 := hkx.size
        replace hT6 := Lib.hid hT6
        replace hk56 := Lib.hid hk56
        replace hmv := Lib.hid hmv
        replace hb06 := Lib.hid hb06
        replace hbq6 := Lib.hid hbq6
        replace hIA6 := Lib.hid hIA6
        replace hz6 := Lib.hid hz6
        clear hO5 hG5 hL5 hX hXL hX4 hmade hA4 hb5 hkx hi45 hi56
        (repeat (apply Free.cw_pure rfl rfl; (intro w'; go_simp <;> exact rfl); go_frame))
        refine Free.cw_loud rfl rfl (fun K hK => ?_)
        go_wp2
        refine hK _ _ rfl (Free.KeepsP.of hk56.out (fun b hb => .inr ⟨trivial, by simpa using hb⟩)) ?_
        clear hK K
        refine Free.cw_nil ?_
        generalize (w5.setCell ⟨bt, 8, none⟩ (.slice a5 N5 q5)) = W6 at *
        obtain ⟨d0, d1, d2, d3, d4, d5, d6, d7, d8, d9, d10, d11⟩ := hT6.out.cells
        obtain ⟨y0, y1, y2, y3, y4, y5, y6, y7, yf, ylt⟩ := cells8 hb06.out
        obtain ⟨r0, r1, r2⟩ := cells3t hbq6.out
        have hlt6 := hT6.out.lt
        have hfr6 := hT6.out.free
        simp only [Tr.take] at d9
        rw [hs.out] at d9
        clear hA3 hR3 hRL3 hlt3 hlt5 c58 c5f hk56 hIO hfr hk34 d0 d1 d2 d3 d4 d6 d10 d11 hlB
        obtain ⟨kn, hkn⟩ : ∃ k, a.kn = k := ⟨_, rfl⟩
        rw [hkn] at y4
        replace hkn := Lib.hid hkn
        cases kn with
        | false =>
          have hr : t.answer a = ({ t.take a with state := 4 }, 0) := by unfold Tr.answer; rw [if_neg (by simp [hs.out]), if_neg (by simp [hof.out]), if_pos hkn.out]
          replace hr := Lib.hid hr
          go_wp2
          go_ret
          rw [hr.out]
          exact ⟨_, _, rfl, hT6.out.setState 4, (Mv.nil hk03.out).trans (hmv.out.trans (hT6.out.mvSet 9 _))⟩
        | true =>
        obtain ⟨rt, hrt⟩ : ∃ k, a.rt = k := ⟨_, rfl⟩
        rw [hrt] at y5
        replace hrt := Lib.hid hrt
        cases rt with
        | true =>
          have hr : t.answer a = ({ t.take a with state := 3 }, 0) := by unfold Tr.answer; rw [if_neg (by simp [hs.out]), if_neg (by simp [hof.out]), if_neg (by simp [hkn.out]), if_pos hrt.out]
          replace hr := Lib.hid hr
          go_wp2
          go_ret
          rw [hr.out]
          exact ⟨_, _, rfl, hT6.out.setState 3, (Mv.nil hk03.out).trans (hmv.out.trans (hT6.out.mvSet 9 _))⟩
        | false =>
        obtain ⟨X6, hX6, hX6L⟩ := hT6.out.hi
        have hany := anyA_c W6 _ X6 X0 a.m a.ep hX6.r y0 y3
        obtain ⟨od, hod⟩ : ∃ d, X6.any (AnV.odd a.m a.ep) = d := ⟨_, rfl⟩
        rw [hod] at hany
        have hod2 : (t.hist ++ [a]).any (Ans.odd a.m a.ep) = od := by rw [← hod]; exact hX6L.any
        replace hany := Lib.hid hany
        replace hod2 := Lib.hid hod2
        clear hod hX6 hX6L
        go_wp2_with fail
        refine (hany.out).mono ?_
        rintro e w7 ⟨rfl, hk7⟩
        have hT7 := hT6.out.keeps hk7
        have hmv7 := hmv.out.trans (.nil hk7)
        have hz7 := hmv7.k.size
        have hb07 := (hmv7.k.block X0 (lt_of_blk hb03.out) (hnX _ (Nat.le_refl _))).trans hb03.out
        have hbq7 := (hmv7.k.block (X0 + 1) (lt_of_blk hbq3.out) (hnX _ (by omega))).trans hbq3.out
        have hIA7 := hIA3.out.keepE hmv7.k (fun b hb => hsep.out b hb)
        obtain ⟨d0, d1, d2, d3, d4, d5, d6, d7, d8, d9, d10, d11⟩ := hT7.cells
        obtain ⟨y0, y1, y2, y3, y4, y5, y6, y7, yf, ylt⟩ := cells8 hb07
        obtain ⟨r0, r1, r2⟩ := cells3t hbq7
        have hlt7 := hT7.lt
        have hfr7 := hT7.free
        have hne7 := hT7.ne_bt.1
        have hbmX : bm < X0 := hown0.out bm (mem_ownT.2 (.inr (.inl rfl)))
        replace hT7 := Lib.hid hT7
        replace hmv7 := Lib.hid hmv7
        replace hb07 := Lib.hid hb07
        replace hbq7 := Lib.hid hbq7
        replace hIA7 := Lib.hid hIA7
        clear hT6 hmv hb06 hbq6 hIA6 hlt6 hfr6 hz6 hany hk7 d0 d1 d2 d3 d4 d6 d8 d9 d10 d11
        cases od with
        | true =>
          have hr : t.answer a = ({ t.take a with state := 4 }, 0) := by unfold Tr.answer; rw [if_neg (by simp [hs.out]), if_neg (by simp [hof.out]), if_neg (by simp [hkn.out]), if_neg (by simp [hrt.out]), if_pos hod2.out]
          replace hr := Lib.hid hr
          have d9 := hT7.out.cells.2.2.2.2.2.2.2.2.2.1
          go_wp2
          go_ret
          rw [hr.out]
          exact ⟨_, _, rfl, hT7.out.setState 4, (Mv.nil hk03.out).trans (hmv7.out.trans (hT7.out.mvSet 9 _))⟩
        | false =>
        have hr : t.answer a = (((t.take a).put a).close, 0) := by unfold Tr.answer; rw [if_neg (by simp [hs.out]), if_neg (by simp [hof.out]), if_neg (by simp [hkn.out]), if_neg (by simp [hrt.out]), if_neg (by simp [hod2.out])]
        replace hr := Lib.hid hr
        have hcop := fun (W : World) (hk : Keeps [] w7 W) => copied_c W ⟨a.m, a.ow, a.n, a.ep, a.kn, a.rt, a.lu, x7, x8, x9⟩ a.ins (hIA7.out.keeps hk) (by have := ha.len; omega)
        simp only [aV, AnV.v] at hcop
        replace hcop := Lib.hid hcop
        go_wp2
        refine Free.wp_region_chain (fun i => i == 6 || i == 7) (fun i => true) (fun j b => j = 7 ∧ b = bm) (by kernel_rfl) (by kernel_rfl) (by kernel_rfl) ?_
        (repeat (first | (apply Free.cw_pure rfl rfl; (intro w'; go_simp <;> exact rfl); go_frame) | (apply Free.cw_steady rfl rfl rfl; (intro w' hS; have q0 := Free.sx_cell hS d7 (fun j hp hT => hne7 hT.2.symm); have q1 := Free.sx_cell hS r0 (fun j hp hT => by have := hT.2; omega); have q2 := Free.sx_cell hS r1 (fun j hp hT => by have := hT.2; omega); have q3 := Free.sx_cell hS r2 (fun j hp hT => by have := hT.2; omega); have q4 := Free.sx_cell hS y0 (fun j hp hT => by have := hT.2; omega); have q5 := Free.sx_cell hS y1 (fun j hp hT => by have := hT.2; omega); have q6 := Free.sx_cell hS y2 (fun j hp hT => by have := hT.2; omega); have q7 := Free.sx_cell hS y3 (fun j hp hT => by have := hT.2; omega); have q8 := Free.sx_cell hS y4 (fun j hp hT => by have := hT.2; omega); have q9 := Free.sx_cell hS y5 (fun j hp hT => by have := hT.2; omega); have q10 := Free.sx_cell hS y6 (fun j hp hT => by have := hT.2; omega); have q11 := Free.sx_cell hS y7 (fun j hp hT => by have := hT.2; omega); go_simp <;> exact rfl); go_frame) | (refine Free.cw_skip rfl ?_; go_frame)))
        refine Free.cw_loud rfl rfl (fun K hK => ?_)
        go_wp2_with fail
        refine (hcop.out _ ((Keeps.refl [] _).drew)).mono ?_
        rintro e w8 ⟨⟨z0, z1, z2, z3, z4, z5, z6, z7, z8, z9⟩, rfl, f0, f1, f2, f3, f4, f5, f6, hIO, hk8⟩
        simp only at f0 f1 f2 f3 f4 f5 f6
        subst f0 f1 f2 f3 f4 f5 f6
        refine hK _ _ rfl (Free.KeepsP.of hk8 (by simp)) ?_
        clear hK K
        simp only [AnV.v] at hIO
        have hk78 : Keeps [] w7 w8 := ((Keeps.refl [] w7).drew).trans hk8
        have hT8 := hT7.out.keeps hk78
        obtain ⟨R8, hR8, hRL8⟩ := hT8.mp
        have hget : MapS.get a.q R8 = none := by
          obtain ⟨ho1, _⟩ := hRL8.open (q := a.q) hT8.inv.nd
          cases hg : MapS.get a.q R8 with
          | none => rfl
          | some u => have := ho1 (by rw [hg]; rfl); rw [show (t.take a).qs = t.qs from rfl, hof.out] at this; cases this
        have hlen8 : R8.length < maxLen := by
          have h1 := hRL8.1
          have h2 := (rec_len t.qs).1
          have h3 : (t.take a).rec'.length = (recOf t.qs).length := rfl
          unfold maxLen; omega
        obtain ⟨w9, hrun, hM9, hk89⟩ := MapS.M.putNew ktQ Tryz.underlying97 hR8 ha.q hget hlen8 (⟨a.m, a.ow, a.n, a.ep, a.kn, a.rt, a.lu, z7, z8, z9⟩ : AnV)
        have hxA : InA w8 ⟨a.m, a.ow, a.n, a.ep, a.kn, a.rt, a.lu, z7, z8, z9⟩ a := ⟨rfl, rfl, rfl, rfl, rfl, rfl, rfl, hIO⟩
        obtain ⟨hT9, _⟩ := hT8.setRec hR8 hRL8 hof.out hk89 hM9 hxA ha hkn.out
        have hmv9 := (hmv7.out.trans (.nil hk78)).trans (hT8.mvRec hR8 hRL8 hof.out hk89 hM9 hxA ha hkn.out)
        simp only [ktQ, qV, Ans.q, aV, AnV.v] at hrun
        replace hT9 := Lib.hid hT9
        replace hmv9 := Lib.hid hmv9
        replace hk89 := Lib.hid hk89
        clear hk8 hIO hxA hM9 hRL8 hget hlen8 hT8 hcop
        (repeat (apply Free.cw_pure rfl rfl; (intro w'; go_simp <;> exact rfl); go_frame))
        refine Free.cw_loud rfl rfl (fun K hK => ?_)
        go_wp2
        refine hK _ _ rfl (Free.KeepsP.of hk89.out (fun b hb => ⟨trivial, by simpa using hb⟩)) ?_
        clear hK K
        refine Free.cw_nil ?_
        have hx8 : x8 = a.ins.length := by obtain ⟨_, _, e, _⟩ := hIA7.out.form; cases e; rfl
        have hT9' : TrM w9 B bt bm (.slice ao LO co) (.slice a5 N5 q5) vg (t.mid a 0) := hT9.out
        have hz9 := hmv9.out.k.size
        have hb09 := (hmv9.out.k.block X0 (lt_of_blk hb03.out) (hnX _ (Nat.le_refl _))).trans hb03.out
        obtain ⟨y0, y1, y2, y3, y4, y5, y6, y7, yf, ylt⟩ := cells8 hb09
        clear hz9 hb09 hrun hk89 hT9 hR8 hk78 hT7 hmv7 hb07 hbq7 hIA7 hlt7 hfr7 hne7
        have h88 : x8 ≤ 1000 := by omega
        replace hx8 := Lib.hid hx8
        replace hT9' := Lib.hid hT9'
        go_wp2
        go_loopw [88] (fun i wr => ∃ k : Nat, i = .int .i64 k ∧ k ≤ x8 ∧ ∃ vk, Hid (TrM wr B bt bm vk (.slice a5 N5 q5) vg (t.mid a k)) ∧ Hid (Mv (ownT bt bm (.slice ao LO co) (.slice ah LH ch) vg) (ownT bt bm vk (.slice a5 N5 q5) vg) w3 wr)) (fun i _ => x8 - (intOf i).toNat)
        case atStart => exact ⟨0, rfl, by omega, _, hT9', hmv9⟩
        case round =>
          obtain ⟨k, rfl, hk, vk, hTr, hmvr⟩ := hrel
          obtain ⟨ak, ck, rfl⟩ := hTr.out.op.form
          obtain ⟨LK, hLK⟩ : ∃ n, (t.mid a k).op.length = n := ⟨_, rfl⟩
          have hLK2 := Tr.mid_op t a k hl2
          rw [hLK] at hTr hmvr hLK2
          by_cases hlt : k < x8
          · have hki : k < a.ins.length := by rw [← hx8.out]; exact hlt
            obtain ⟨g, o, c', hv, he⟩ := (hIA3.out.keepE hmvr.out.k (fun b hb => hsep.out b hb)).elem hki
            cases hv
            obtain ⟨xx, hxx⟩ : ∃ xx, a.ins[k] = xx := ⟨_, rfl⟩
            have hxok := ha.ins a.ins[k] (List.getElem_mem hki)
            rw [hxx] at he hxok
            obtain ⟨e0, e1, e2⟩ := xx
            have f0 := he 0 _ rfl
            have f1 := he 1 _ rfl
            have f2 := he 2 _ rfl
            simp only [shT, Nat.add_zero] at f0 f1 f2
            have hbr := (hmvr.out.k.block X0 (lt_of_blk hb03.out) (hnX _ (Nat.le_refl _))).trans hb03.out
            obtain ⟨y0, y1, y2, y3, y4, y5, y6, y7, yf, ylt⟩ := cells8 hbr
            replace hxx := Lib.hid hxx
            replace hki := Lib.hid hki
            replace hxok := Lib.hid hxok
            clear he hbr
            go_wp2
            have hkA : Keeps [] wr ((wr.alloc (.cells #[.int .i64 e0, .int .u64 e1, .int .i64 e2] tI)).alloc (.cells #[.int .i64 e0, .int .i64 a.m, .int .u64 e1] tQ)) := ((Keeps.refl _ _).alloc _).alloc _
            have hbA := heap_alloc_new (wr.alloc (.cells #[.int .i64 e0, .int .u64 e1, .int .i64 e2] tI)) (.cells #[.int .i64 e0, .int .i64 a.m, .int .u64 e1] tQ)
            have hzA : (wr.alloc (.cells #[.int .i64 e0, .int .u64 e1, .int .i64 e2] tI)).heap.size = wr.heap.size + 1 := by simp
            rw [hzA] at hbA
            generalize hWA : ((wr.alloc (.cells #[.int .i64 e0, .int .u64 e1, .int .i64 e2] tI)).alloc (.cells #[.int .i64 e0, .int .i64 a.m, .int .u64 e1] tQ)) = WA at *
            clear hWA hzA
            have hTA := hTr.out.keeps hkA
            have hmvA := hmvr.out.trans (.nil hkA)
            obtain ⟨r0, r1, r2⟩ := cells3t hbA
            have d5 := hTA.cells.2.2.2.2.2.1
            have hltA := hTA.lt
            have hcon := fun (W : World) (hk : Keeps [] WA W) => containsQ_c W _ _ (e0, a.m, e1) (hTA.op.r.keeps hk)
            obtain ⟨ib, hib⟩ : ∃ ib, decide ((e0, a.m, e1) ∈ (t.mid a k).op) = ib := ⟨_, rfl⟩
            rw [hib] at hcon
            simp only [qV] at hcon
            replace hib := Lib.hid hib
            replace hcon := Lib.hid hcon
            replace hTA := Lib.hid hTA
            replace hmvA := Lib.hid hmvA
            replace hbA := Lib.hid hbA
            replace hkA := Lib.hid hkA
            have hownr : ∀ b ∈ ownT bt bm (.slice ak LK ck) (.slice a5 N5 q5) vg, b < wr.heap.size := fun b hb => (hTr.out.own_tag hb).2.1
            clear hTr hmvr
            refine Free.wp_region_chain (fun i => i == 5) (fun i => true) (fun _ _ => False) (by kernel_rfl) (by kernel_rfl) (by kernel_rfl) ?_
            (repeat (first | (apply Free.cw_pure rfl rfl; (intro w'; go_simp <;> exact rfl); go_frame) | (apply Free.cw_steady rfl rfl rfl; (intro w' hS; have q0 := Free.sx_cell hS d5 (fun _ _ hT => hT); have q1 := Free.sx_cell hS r0 (fun _ _ hT => hT); have q2 := Free.sx_cell hS r1 (fun _ _ hT => hT); have q3 := Free.sx_cell hS r2 (fun _ _ hT => hT); go_simp <;> exact rfl); go_frame) | (refine Free.cw_skip rfl ?_; go_frame)))
            refine Free.cw_loud rfl rfl (fun K hK => ?_)
            go_wp2_with fail
            refine (hcon.out _ ((Keeps.refl [] _).drew)).mono ?_
            rintro e wB ⟨rfl, hkB⟩
            refine hK _ _ rfl (Free.KeepsP.of hkB (by simp)) ?_
            clear hK K hcon
            refine Free.cw_nil ?_
            have hkAB : Keeps [] WA wB := ((Keeps.refl [] WA).drew).trans hkB
            have hTB := hTA.out.keeps hkAB
            have hmvB := hmvA.out.trans (.nil hkAB)
            have hbB := (hkAB.block _ (lt_of_blk hbA.out) (by simp)).trans hbA.out
            obtain ⟨r0, r1, r2⟩ := cells3t hbB
            have d5 := hTB.cells.2.2.2.2.2.1
            have hltB := hTB.lt
            have hsB := hTB.op.lt
            have hwrB : wr.heap.size + 1 < wB.heap.size := lt_of_blk hbB
            have hownB : ∀ b ∈ ownT bt bm (.slice ak LK ck) (.slice a5 N5 q5) vg, b < wB.heap.size := fun b hb => (hTB.own_tag hb).2.1
            replace hTB := Lib.hid hTB
            replace hmvB := Lib.hid hmvB
            clear hTA hmvA hbA hkA hkB hkAB hbB hltA
            cases ib with
            | true =>
              go_wp2
              go_roundw
              case rel => exact ⟨k + 1, rfl, by omega, _, by rw [Tr.mid_old t a k hki.out (by rw [hxx.out]; simpa using hib.out)]; exact hTB, hmvB⟩
              case measure => simp [intOf]; omega
            | false =>
              have hne : ((LK : Int) == 1024) = false := by simp; omega
              have hbv : ∀ b, (Value.slice ak LK ck).ownBlock = some b → b < wr.heap.size ∧ b ≠ bt := fun b hb => ⟨hownr b (mem_ownT.2 (.inr (.inr (.inl hb)))), fun e => hTB.out.ne_bt.2.1 (e ▸ hb)⟩
              have hbtr := hownr bt (mem_ownT.2 (.inl rfl))
              replace hbv := Lib.hid hbv
              clear hownr hownB
              go_wp2
              refine Free.wp_region_chain (fun i => i == 6 || i == 7 || i == 10) (fun i => true) (fun j b => (j = 7 ∧ (Value.slice ak LK ck).ownBlock = some b) ∨ (j = 10 ∧ b = bt)) (by kernel_rfl) (by kernel_rfl) (by kernel_rfl) ?_
              (repeat (first | (apply Free.cw_pure rfl rfl; (intro w'; go_simp <;> exact rfl); go_frame) | (apply Free.cw_steady rfl rfl rfl; (intro w' hS; have q0 := Free.sx_cell hS d5 (fun j hp hT => Or.elim hT (fun h => (hbv.out _ h.2).2 rfl) (fun h => by obtain ⟨rfl, _⟩ := h; exact absurd hp (by decide +kernel))); have q1 := Free.sx_cell hS r0 (fun j hp hT => Or.elim hT (fun h => by have := (hbv.out _ h.2).1; omega) (fun h => by have := h.2; omega)); have q2 := Free.sx_cell hS r1 (fun j hp hT => Or.elim hT (fun h => by have := (hbv.out _ h.2).1; omega) (fun h => by have := h.2; omega)); have q3 := Free.sx_cell hS r2 (fun j hp hT => Or.elim hT (fun h => by have := (hbv.out _ h.2).1; omega) (fun h => by have := h.2; omega)); go_simp <;> exact rfl); go_frame) | (refine Free.cw_skip rfl ?_; go_frame)))
              refine Free.cw_loud rfl rfl (fun K hK => ?_)
              go_wp2
              refine hK _ _ rfl (Free.KeepsP.alloc _ _ _) ?_
              clear hK K
              (repeat (apply Free.cw_pure rfl rfl; (intro w'; go_simp <;> exact rfl); go_frame))
              refine Free.cw_loud rfl rfl (fun K hK => ?_)
              have hmade := (Sh.O.one shQ wB (e0, a.m, e1) #[.int .i64 e0, .int .i64 a.m, .int .u64 e1] tQ 0 rfl (by omega)).keeps ((Keeps.refl [] _).drew)
              have hkC : Keeps [] wB ((wB.alloc (.cells #[.int .i64 e0, .int .i64 a.m, .int .u64 e1] tQ)).drew) := ((Keeps.refl _ _).alloc _).drew
              have hTC := hTB.out.keeps hkC
              have hmvC := hmvB.out.trans (.nil hkC)
              have hBB := hTB.out.bB.1
              refine Sh.wp_app shQ B infoQ rfl Tryz.underlying96 (.slice ak LK ck) (.slice (some ⟨wB.heap.size, 0, none⟩) 1 1) (t.mid a k).op [(e0, a.m, e1)] _ _ rfl rfl rfl hTC.op hmade.r (by rw [hLK]; simp only [List.length_cons, List.length_nil]; omega) (by simp; omega) ?_
              intro v5 w5 hO5 hG5
              obtain ⟨a5', c5', rfl⟩ := hO5.form
              obtain ⟨N5', hN5'⟩ : ∃ n, ((t.mid a k).op ++ [(e0, a.m, e1)]).length = n := ⟨_, rfl⟩
              rw [hN5'] at hO5 hG5 ⊢
              replace hN5' := Lib.hid hN5'
              refine hK _ _ rfl (Free.KeepsP.of hG5.keepsO (fun b hb => .inl ⟨rfl, by simpa using hb⟩)) ?_
              clear hK K
              have hqok : qOk (e0, a.m, e1) := ⟨hxok.out.1, ha.q.1, hxok.out.2.1⟩
              have hnm : (e0, a.m, e1) ∉ (t.mid a k).op := by simpa using hib.out
              obtain ⟨hTD, hkD, _, _⟩ := hTC.setOpen hG5 hO5 hqok hnm
              have hmvD := hmvC.trans (hTC.mvOpen hG5 hO5 hqok hnm)
              have hTD' : TrM (w5.setCell ⟨bt, 5, none⟩ (.slice a5' N5' c5')) B bt bm (.slice a5' N5' c5') (.slice a5 N5 q5) vg (t.mid a (k + 1)) := by
                rw [Tr.mid_new t a k hki.out (by rw [hxx.out]; exact hnm)]
                simp only [hxx.out]
                exact hTD
              have hb5 := (hG5.keepsO.block bt hTC.lt.1 (by simpa using hTC.ne_bt.2.1)).trans hTC.blk
              have hlt5 := lt_of_blk hb5
              have c55 : ∃ u, w5.cell? ⟨bt, 5, none⟩ = some u := by rw [World.cell?, hb5]; exact ⟨_, rfl⟩
              have c5f : ∀ o, w5.frozen? ⟨bt, o, none⟩ = false := fun o => by simp [World.frozen?, hb5]
              obtain ⟨u55, c55⟩ := c55
              replace hTD' := Lib.hid hTD'
              replace hkD := Lib.hid hkD
              replace hmvD := Lib.hid hmvD
              clear hO5 hG5 hmade hTC hmvC hTD hb5 hkC hnm hqok hTB hmvB
              (repeat (apply Free.cw_pure rfl rfl; (intro w'; go_simp <;> exact rfl); go_frame))
              refine Free.cw_loud rfl rfl (fun K hK => ?_)
              go_wp2
              refine hK _ _ rfl (Free.KeepsP.of hkD.out (fun b hb => .inr ⟨trivial, by simpa using hb⟩)) ?_
              clear hK K
              refine Free.cw_nil ?_
              go_wp2
              go_roundw
              case rel => exact ⟨k + 1, rfl, by omega, _, hTD', hmvD⟩
              case measure => simp [intOf]; omega
          · have hkx : k = x8 := by omega
            subst hkx
            obtain ⟨Rr, hRr, hRLr⟩ := hTr.out.mp
            have hlenm := fun (w' : World) (hb : w'.heap[bm]? = wr.heap[bm]?) => MapS.M.len ktQ Tryz.underlying97 (hRr.at' hb) 3
            obtain ⟨NR, hNR⟩ : ∃ n, Rr.length = n := ⟨_, rfl⟩
            rw [hNR] at hlenm
            have hdec : NR = LK ↔ allQ (t.mid a k).qs = true := by
              rw [← hNR, hRLr.1, ← (rec_len (t.mid a k).qs).2, ← hLK]
              simp [Tr.op, Tr.rec']
            have hmid : t.mid a k = (t.take a).put a := by rw [hx8.out]; exact Tr.mid_all t a
            replace hlenm := Lib.hid hlenm
            replace hdec := Lib.hid hdec
            replace hmid := Lib.hid hmid
            have d5 := hTr.out.cells.2.2.2.2.2.1
            have d7 := hTr.out.cells.2.2.2.2.2.2.2.1
            have d9 := hTr.out.cells.2.2.2.2.2.2.2.2.2.1
            have hltr := hTr.out.lt
            have hfrr := hTr.out.free
            clear hRr hRLr
            go_wp2
            refine Free.wp_region_chain (fun i => false) (fun i => true) (fun _ _ => False) (by kernel_rfl) (by kernel_rfl) (by kernel_rfl) ?_
            (repeat (first | (apply Free.cw_pure rfl rfl; (intro w'; go_simp <;> exact rfl); go_frame) | (apply Free.cw_steady rfl rfl rfl; (intro w' hS; have q0 := Free.sx_cell hS d5 (fun _ _ hT => hT); have q1 := Free.sx_cell hS d7 (fun _ _ hT => hT); have q2 := hlenm.out w' (hS.block bm hltr.2 (fun ⟨_, _, _, hT⟩ => hT)); go_simp <;> exact rfl); go_frame)))
            refine Free.cw_nil ?_
            obtain ⟨al, hal⟩ : ∃ b, allQ (t.mid a k).qs = b := ⟨_, rfl⟩
            have hbe : ((NR : Int) == (LK : Int)) = al := by
              rw [← hal]
              have h1 := hdec.out
              cases hq : allQ (t.mid a k).qs with
              | true => have := h1.2 hq; simp [this]
              | false => 
                have h2 : ¬ NR = LK := fun e => by rw [h1.1 e] at hq; cases hq
                simp; omega
            have hTd := hTr.out.keeps ((Keeps.refl [] wr).drew)
            have hmvd := (Mv.nil hk03.out).trans (hmvr.out.trans (.nil ((Keeps.refl [] wr).drew)))
            replace hTd := Lib.hid hTd
            replace hmvd := Lib.hid hmvd
            cases al with
            | true =>
              go_wp2
              go_ret
              rw [hr.out, ← hmid.out, show (t.mid a k).close = { t.mid a k with state := 1 } from if_pos hal]
              exact ⟨_, _, rfl, hTd.out.setState 1, hmvd.out.trans (hTd.out.mvSet 9 _)⟩
            | false =>
              go_wp2
              go_ret
              rw [hr.out, ← hmid.out, show (t.mid a k).close = t.mid a k from if_neg (by rw [hal]; decide)]
              exact ⟨_, _, rfl, hTd.out, hmvd.out⟩
end Go.Proofs.YtiplgpefapeapaaGreat

namespace Go.Proofs.YtiplgpefapeapaaGreat
open Go.RowKit

/-- What a question asks. -/
def askOf (p : Qn × Option Ans) : Option T3 := if p.2.isSome then none else some (p.1.1, p.1.2.2, p.1.2.1)
def Tr.queries (t : Tr) : Tr × List T3 := if t.state ≠ 0 then (t, []) else ({ t with told := t.qs.length }, (t.qs.drop t.told.toNat).filterMap askOf)
def QsPost (w : World) (B bt bm : Nat) (vo vh vg : Value) (r : Tr × List T3) (e : Ending) (w' : World) : Prop :=
  ∃ v, e = .returned v ∧ shT.O w' w.heap.size tN v r.2 ∧ TrM w' B bt bm vo vh vg r.1 ∧ Mv (ownT bt bm vo vh vg) (ownT bt bm vo vh vg) w w'
theorem ask_step (l : List (Qn × Option Ans)) (k : Nat) (hk : k < l.length) : (l.take (k + 1)).filterMap askOf = (l.take k).filterMap askOf ++ (askOf l[k]).toList := by
  rw [List.take_succ_eq_append_getElem hk, List.filterMap_append]
  cases h : askOf l[k] <;> simp [h]
theorem LR.some {w : World} {R : List (Qn × AnV)} {t : Tr} {q : Qn} {u : Option Ans} (h : LR w R t.rec') (hnd : t.op.Nodup) (hm : (q, u) ∈ t.qs) : (MapS.get q R).isSome = u.isSome := by
  rcases h.2 q with ⟨h1, h2⟩ | ⟨x, y, h1, h2, _⟩
  · rw [h1]
    cases u with
    | none => rfl
    | some b => rw [show MapS.get q t.rec' = _ from (get_rec hnd q b).2 hm] at h2; cases h2
  · rw [h1]
    have := nd_val hnd ((get_rec hnd q y).1 h2) hm
    rw [← this]; rfl
set_option maxRecDepth 100000 in
set_option maxHeartbeats 10000000 in
theorem queries_c (w : World) (B bt bm : Nat) (vo vh vg : Value) (t : Tr) (tn : Nat) (h : TrM w B bt bm vo vh vg t) (ht : t.told = tn) (htn : tn ≤ t.qs.length) (hl : t.qs.length ≤ 100000) :
    Calls Tryz.prog 14 #[.pointer (some ⟨bt, 0, none⟩)] w (QsPost w B bt bm vo vh vg t.queries) := by
  obtain ⟨ao, co, rfl⟩ := h.op.form
  obtain ⟨LO, hLO⟩ : ∃ n, t.op.length = n := ⟨_, rfl⟩
  have hLO2 : t.qs.length = LO := by rw [← hLO]; simp [Tr.op]
  rw [hLO] at h ⊢
  rw [hLO2] at htn hl
  replace hLO := Lib.hid hLO
  replace hLO2 := Lib.hid hLO2
  obtain ⟨c0, c1, c2, c3, c4, c5, c6, c7, c8, c9, c10, c11⟩ := h.cells
  have hlt := h.lt
  by_cases hs : t.state = 0
  case neg =>
    have hs1 : (t.state != 0) = true := by simpa using hs
    have hr : t.queries = (t, []) := by unfold Tr.queries; rw [if_pos hs]
    rw [hr]
    replace hs := Lib.hid hs
    replace hr := Lib.hid hr
    replace h := Lib.hid h
    clear c0 c1 c2 c3 c4 c5 c6 c7 c8 c10 c11
    go_enter Tryz.func14, Tryz.ntmps14
    go_wp2
    go_ret
    exact ⟨_, rfl, Sh.O.nil _ _ _ _, h.out, .nil (Keeps.refl _ _)⟩
  case pos =>
    have hr : t.queries = ({ t with told := LO }, (t.qs.drop tn).filterMap askOf) := by unfold Tr.queries; rw [if_neg (by simp [hs]), hLO2.out, ht]; rfl
    rw [hr]
    rw [hs] at c9
    rw [ht] at c6
    have hT := h.op.r.tail' tn (by rw [hLO.out]; exact htn)
    have hfr := h.free
    replace hr := Lib.hid hr
    replace h := Lib.hid h
    replace hs := Lib.hid hs
    replace ht := Lib.hid ht
    replace hT := Lib.hid hT
    clear c0 c1 c2 c3 c4 c8 c10 c11
    go_enter Tryz.func14, Tryz.ntmps14
    go_wp2
    refine Free.wp_region_chain (fun i => false) (fun i => true) (fun _ _ => False) (by kernel_rfl) (by kernel_rfl) (by kernel_rfl) ?_
    (repeat (first | (apply Free.cw_pure rfl rfl; (intro w'; go_simp <;> exact rfl); go_frame) | (apply Free.cw_steady rfl rfl rfl; (intro w' hS; have q0 := Free.sx_cell hS c5 (fun _ _ hT => hT); have q1 := Free.sx_cell hS c6 (fun _ _ hT => hT); go_simp <;> exact rfl); go_frame) | (refine Free.cw_skip rfl ?_; go_frame)))
    refine Free.cw_nil ?_
    obtain ⟨sa, hsa⟩ : ∃ sa, (if co = tn then ao else Option.map (fun x => x.add (tn * 3)) ao) = sa := ⟨_, rfl⟩
    replace hT : shQ.R w (.slice sa (LO - tn) (co - tn)) (t.op.drop tn) := by rw [← hLO.out, ← hsa]; exact hT.out
    replace hT := Lib.hid hT
    rw [hsa]
    clear hsa
    obtain ⟨M, hM⟩ : ∃ M, LO - tn = M := ⟨_, rfl⟩
    rw [hM] at hT ⊢
    obtain ⟨scap, hsc⟩ : ∃ M, co - tn = M := ⟨_, rfl⟩
    rw [hsc] at hT ⊢
    have hD : (t.qs.drop tn).length = M := by rw [List.length_drop, hLO2.out]; exact hM
    have hMl : M ≤ 100000 := by omega
    obtain ⟨R, hR, hRL⟩ := h.out.mp
    have hlook := fun (w' : World) (hb : w'.heap[bm]? = w.heap[bm]?) (q : Qn) (hq : qOk q) => MapS.M.look_ok ktQ (k := q) Tryz.underlying97 (aV .zero) zeroA (hR.at' hb) hq
    have hsome := fun (q : Qn) (u : Option Ans) (hm : (q, u) ∈ t.qs) => hRL.some h.out.inv.nd hm
    replace hlook := Lib.hid hlook
    replace hsome := Lib.hid hsome
    replace hD := Lib.hid hD
    clear hsc hRL hR
    go_wp2
    go_loopw [24, 3] (fun i ov wr => ∃ k : Nat, i = .int .i64 k ∧ k ≤ M ∧ shT.O wr w.heap.size tN ov (((t.qs.drop tn).take k).filterMap askOf) ∧ Keeps [] w wr) (fun i _ _ => M - (intOf i).toNat)
    case atStart => exact ⟨0, rfl, by omega, Sh.O.nil _ _ _ _, (Keeps.refl _ _).drew⟩
    case round =>
      obtain ⟨k, rfl, hk, hO, hkw⟩ := hrel
      obtain ⟨oa, oc, rfl⟩ := hO.form
      obtain ⟨NN, hNN⟩ : ∃ n, (((t.qs.drop tn).take k).filterMap askOf).length = n := ⟨_, rfl⟩
      have hNk : NN ≤ k := by rw [← hNN]; exact Nat.le_trans (List.length_filterMap_le _ _) (by simp; omega)
      rw [hNN] at hO ⊢
      by_cases hlt2 : k < M
      · have hki : k < (t.qs.drop tn).length := by rw [hD.out]; exact hlt2
        have hki2 : k < (t.op.drop tn).length := by rw [Tr.op, ← List.map_drop, List.length_map]; exact hki
        obtain ⟨⟨qq, uu⟩, hqq⟩ : ∃ p, (t.qs.drop tn)[k] = p := ⟨_, rfl⟩
        have hq2 : (t.op.drop tn)[k] = qq := by simp only [Tr.op, ← List.map_drop, List.getElem_map]; rw [hqq]
        have hmem : (qq, uu) ∈ t.qs := List.mem_of_mem_drop (hqq ▸ List.getElem_mem hki)
        have hqok : qOk qq := h.out.inv.ok qq (List.mem_map.2 ⟨_, hmem, rfl⟩)
        have hst := ask_step (t.qs.drop tn) k hki
        rw [hqq] at hst
        obtain ⟨g, o, c', hv, he⟩ := (hT.out.keeps hkw).elem hki2
        rw [hq2] at he
        rw [show (t.op.drop tn).length = M by rw [List.length_drop, hLO.out]; exact hM] at hv
        cases hv
        have hsm := hsome.out qq uu hmem
        have hlk := fun (w' : World) (hb : w'.heap[bm]? = w.heap[bm]?) => hlook.out w' hb qq hqok
        rw [hsm] at hlk
        obtain ⟨xv, hxv⟩ : ∃ xv : AnV, ((MapS.get qq R).map aV).getD (aV .zero) = aV xv := by
          cases MapS.get qq R with
          | none => exact ⟨_, rfl⟩
          | some u => exact ⟨u, rfl⟩
        rw [hxv] at hlk
        obtain ⟨v0, v1, v2, v3, v4, v5, v6, v7, v8, v9⟩ := xv
        obtain ⟨q0, q1, q2⟩ := qq
        have f0 := he 0 _ rfl
        have f1 := he 1 _ rfl
        have f2 := he 2 _ rfl
        simp only [shQ, Nat.add_zero] at f0 f1 f2
        simp only [ktQ, qV, aV, AnV.v] at hlk
        obtain ⟨ub, hub⟩ : ∃ b, uu.isSome = b := ⟨_, rfl⟩
        rw [hub] at hlk
        have d7 := hkw.val c7
        have hbm2 := hkw.block bm hlt.2 (by simp)
        have hwz := hkw.size
        replace hO := Lib.hid hO
        replace hkw := Lib.hid hkw
        replace hlk := Lib.hid hlk
        replace hst := Lib.hid hst
        replace hxv := Lib.hid hxv
        replace hub := Lib.hid hub
        replace hNN := Lib.hid hNN
        clear he hmem hqok hki hki2 hq2 hqq hsm
        go_wp2
        have hkA : Keeps [] wr (wr.alloc (.cells #[.int .i64 q0, .int .i64 q1, .int .u64 q2] tQ)) := (Keeps.refl _ _).alloc _
        have hbA := heap_alloc_new wr (.cells #[.int .i64 q0, .int .i64 q1, .int .u64 q2] tQ)
        have hzA : (wr.alloc (.cells #[.int .i64 q0, .int .i64 q1, .int .u64 q2] tQ)).heap.size = wr.heap.size + 1 := by simp
        generalize (wr.alloc (.cells #[.int .i64 q0, .int .i64 q1, .int .u64 q2] tQ)) = WA at *
        have hOA := hO.out.keeps hkA
        have hkwA := hkw.out.trans hkA
        have d7 := hkwA.val c7
        obtain ⟨r0, r1, r2⟩ := cells3t hbA
        have hbmA := (hkA.block bm (by omega) (by simp)).trans hbm2
        have hlkA := fun (w' : World) hb => hlk.out w' (Eq.trans hb hbmA)
        obtain ⟨XA, hXA⟩ : ∃ X, wr.heap.size = X := ⟨_, rfl⟩
        rw [hXA] at hzA hbA r0 r1 r2 hwz ⊢
        replace hOA := Lib.hid hOA
        replace hkwA := Lib.hid hkwA
        replace hbA := Lib.hid hbA
        replace hlkA := Lib.hid hlkA
        have hltA : bm < WA.heap.size := by omega
        clear hO hkw hkA hlk hbm2 f0 f1 f2 hbmA
        refine Free.wp_region_chain (fun i => i == 9 || i == 10) (fun i => true) (fun j b => j = 10 ∧ WA.heap.size ≤ b) (by kernel_rfl) (by kernel_rfl) (by kernel_rfl) ?_
        (repeat (first | (apply Free.cw_pure rfl rfl; (intro w'; go_simp <;> exact rfl); go_frame) | (apply Free.cw_steady rfl rfl rfl; (intro w' hS2; have z0 := Free.sx_cell hS2 d7 (fun _ _ hT => by omega); have z1 := Free.sx_cell hS2 r0 (fun _ _ hT => by omega); have z2 := Free.sx_cell hS2 r1 (fun _ _ hT => by omega); have z3 := Free.sx_cell hS2 r2 (fun _ _ hT => by omega); have z5 := hlkA.out w' (hS2.block bm hltA (fun ⟨_, _, _, hT⟩ => by omega)); go_simp <;> exact rfl); go_frame)))
        refine Free.cw_loud rfl rfl (fun K hK => ?_)
        go_wp2
        refine hK _ _ rfl (Free.KeepsP.alloc _ _ _) ?_
        clear hK K
        (repeat (apply Free.cw_pure rfl rfl; (intro w'; go_simp <;> exact rfl); go_frame))
        refine Free.cw_loud rfl rfl (fun K hK => ?_)
        go_wp2
        refine hK _ _ rfl (keepsP_remade (S := fun b => True ∧ WA.heap.size ≤ b) WA _ _ ⟨trivial, Nat.le_refl _⟩).drews ?_
        clear hK K
        (repeat (apply Free.cw_pure rfl rfl; (intro w'; go_simp <;> exact rfl); go_frame))
        refine Free.cw_nil ?_
        have hkB : Keeps [] WA ((WA.alloc (.cells #[.int .i64 v0, .int .i64 v1, .int .u64 v2, .int .i64 v3, .bool v4, .bool v5, .int .i64 v6, .slice v7 v8 v9] tA)).drew) := ((Keeps.refl _ _).alloc _).drew
        have hbB := (hkB.block XA (by omega) (by simp)).trans hbA.out
        obtain ⟨r0, r1, r2⟩ := cells3t hbB
        have hOB := hOA.out.keeps hkB
        have hkwB := hkwA.out.trans hkB
        generalize ((WA.alloc (.cells #[.int .i64 v0, .int .i64 v1, .int .u64 v2, .int .i64 v3, .bool v4, .bool v5, .int .i64 v6, .slice v7 v8 v9] tA)).drew) = WB at *
        clear hOA hkwA hbA hkB hbB hlkA
        cases ub with
        | true =>
          have hnone : askOf ((q0, q1, q2), uu) = none := by unfold askOf; rw [if_pos hub.out]
          rw [hnone, Option.toList_none, List.append_nil] at hst
          replace hst := Lib.hid hst.out
          rw [← hst.out] at hOB
          replace hOB := Lib.hid hOB
          replace hkwB := Lib.hid hkwB
          go_wp2
          go_roundw
          case rel => exact ⟨k + 1, rfl, by omega, hOB.out, hkwB.out⟩
          case measure => simp [intOf]; omega
        | false =>
          have hnone : askOf ((q0, q1, q2), uu) = some (q0, q2, q1) := by unfold askOf; rw [if_neg (by simp [hub.out])]
          rw [hnone, Option.toList_some] at hst
          replace hst := Lib.hid hst.out
          have hmade := Sh.O.one shT WB (q0, q2, q1) #[.int .i64 q0, .int .u64 q2, .int .i64 q1] tN 0 rfl (by omega)
          have hkC := (Keeps.refl [] WB).alloc (.cells #[.int .i64 q0, .int .u64 q2, .int .i64 q1] tN)
          have hOC := hOB.keeps hkC
          have hkwC := hkwB.trans hkC
          have hwC := hkwB.size
          replace hmade := Lib.hid hmade
          replace hOC := Lib.hid hOC
          replace hkwC := Lib.hid hkwC
          clear hOB hkwB hkC
          go_wp2_with (at_builtin; go_loud (refine Sh.wpl_app shT w.heap.size infoN rfl Tryz.underlying42 (.slice oa NN oc) (.slice (some ⟨WB.heap.size, 0, none⟩) 1 1) _ [(q0, q2, q1)] rfl _ _ rfl rfl rfl hOC.out hmade.out.r (by rw [hNN.out]; simp; omega) (by simp; omega) ?_; intro v5 w5 hO5 hG5; have hk5 := Sh.O.grew hkwC.out hOC.out hG5 (Nat.le_refl _); rw [← hst.out] at hO5; replace hO5 := Lib.hid hO5; replace hk5 := Lib.hid hk5; clear hG5))
          go_roundw
          case rel => exact ⟨k + 1, rfl, by omega, hO5.out, hk5.out⟩
          case measure => simp [intOf]; omega
      · have hkM : k = M := by omega
        subst hkM
        rw [List.take_of_length_le (by rw [hD.out]; omega)] at hO
        have hTr := h.out.keeps hkw
        have d5 := hTr.cells.2.2.2.2.2.1
        have hfrr := hTr.free
        have d6 := hTr.cells.2.2.2.2.2.2.1
        have hltr := hTr.lt
        have hne : ∀ b, (Value.slice oa NN oc).ownBlock = some b → b ≠ bt := fun b hb e => by
          subst e
          obtain ⟨cs, hc⟩ := hO.tag _ hb
          exact tag_ne hTr.blk hc (by decide) rfl
        replace hTr := Lib.hid hTr
        replace hO := Lib.hid hO
        replace hkw := Lib.hid hkw
        replace hne := Lib.hid hne
        go_wp2
        go_ret
        have hTf := hTr.out.setTold (LO : Int)
        obtain ⟨hkf, _⟩ := Keeps.setT (o := 6) hTr.out.blk (.int .i64 (LO : Int))
        exact ⟨.slice oa NN oc, rfl, hO.out.keepS hkf (fun b hb e => by simp at hb; exact hne.out b e hb), hTf, (Mv.nil hkw.out).trans (hTr.out.mvSet 6 _)⟩
end Go.Proofs.YtiplgpefapeapaaGreat

namespace Go.Proofs.YtiplgpefapeapaaGreat
open Go.RowKit Go
namespace MapS
variable {P : Program} {kt : TypeId} {κ : Type} [DecidableEq κ] {α : Type} {K : KT P kt κ} {vf : α → Value} {w w' : World} {b r : Nat} {L R : Es κ α}
theorem Rg.lt (h : Rg K vf w b r L R) : b < w.heap.size ∧ r < w.heap.size ∧ r ≠ b := by
  obtain ⟨⟨n, D, left, cnt, hr, _⟩, _⟩ := h
  exact ⟨hr.owns.lt, hr.lt, hr.ne⟩
theorem Rg.kept {S : List Nat} (h : Rg K vf w b r L R) (hk : Keeps S w w') (hb : b ∉ S) (hr : r ∉ S) : Rg K vf w' b r L R := by
  obtain ⟨hl1, hl2, _⟩ := h.lt
  obtain ⟨⟨n, D, left, cnt, ⟨es, clock, since, seen, c0, e1, F, hs, hD, e2, rest⟩, hR⟩, h2, h3, h4, h5⟩ := h
  exact ⟨⟨n, D, left, cnt, ⟨es, clock, since, seen, c0, (hk.block b hl1 hb).trans e1, F, hs, hD, (hk.block r hl2 hr).trans e2, rest⟩, hR⟩, h2, h3, h4, h5⟩
theorem Rg.keeps (h : Rg K vf w b r L R) (hk : Keeps [] w w') : Rg K vf w' b r L R := h.kept hk (by simp) (by simp)
theorem del_self {x : κ} : ∀ {L : Es κ α}, x ∉ L.map (·.1) → del x L = L := fun {L} h => List.filter_eq_self.2 (fun p hp => by
  have : p.1 ≠ x := fun e => h (List.mem_map.2 ⟨p, hp, e⟩)
  simp [this])
theorem perm_del {x : κ} {u : α} : ∀ {L : Es κ α}, ND L → (x, u) ∈ L → L.Perm ((x, u) :: del x L)
  | [], _, h => by simp at h
  | q :: s, hn, hm => by
    obtain ⟨n1, n2⟩ := List.nodup_cons.1 hn
    rcases List.mem_cons.1 hm with rfl | hm
    · have : del x ((x, u) :: s) = s := by
        have hs := del_self (x := x) (L := s) n1
        unfold del at hs ⊢
        rw [List.filter_cons_of_neg (by simp)]; exact hs
      rw [this]
    · have hqx : q.1 ≠ x := fun e => n1 (List.mem_map.2 ⟨(x, u), hm, e.symm⟩)
      have : del x (q :: s) = q :: del x s := by unfold del; rw [List.filter_cons_of_pos (by simp [hqx])]
      rw [this]
      exact ((perm_del n2 hm).cons q).trans (List.Perm.swap _ _ _)
end MapS
end Go.Proofs.YtiplgpefapeapaaGreat
