/- Texts that the laws lean on, in the order in which they build. An iteration over a map with keys of any kind: what keeps it. Trace.answers: the recorded answers in their order. Claims in memory, as they are gathered. What the claims are gathered from: the plain functions. A row of the claims; what the recorded map says of the last use. Trace.claims. -/
import Derived.Test.YtpobepninifenaaGreatS4
import Derived.Deep.CutRange
set_option linter.unusedVariables false
set_option linter.unusedSimpArgs false
namespace Go.Proofs.YtpobepninifenaaGreat
open Go.RowKit Go
namespace MapS
variable {P : Program} {kt : TypeId} {κ : Type} [DecidableEq κ] {α : Type} {K : KT P kt κ} {vf : α → Value} {w w' : World} {b r : Nat} {L R : Es κ α}
theorem Rg.lt (h : Rg K vf w b r L R) : b < w.heap.size ∧ r < w.heap.size ∧ r ≠ b := by
  obtain ⟨⟨n, D, left, cnt, hr, _⟩, _⟩ := h
  exact ⟨hr.owns.lt, hr.lt, hr.ne⟩
theorem Rg.kept {S : List Nat} (h : Rg K vf w b r L R) (hk : Keeps S w w') (hb : b ∉ S) (hr : r ∉ S) : Rg K vf w' b r L R := by
  obtain ⟨hl1, hl2, _⟩ := h.lt
  obtain ⟨⟨n, D, left, cnt, ⟨es, clock, since, seen, c0, e1, F, hs, hD, e2, rest⟩, hR⟩, h2, h3, h4, h5⟩ := h
  exact ⟨⟨n, D, left, cnt, ⟨es, clock, since, seen, c0, (hk.block b hl1 hb).trans e1, F, hs, hD, (hk.block r hl2 hr).trans e2, rest⟩, hR⟩, h2, h3, h4, h5⟩
theorem Rg.keeps (h : Rg K vf w b r L R) (hk : Keeps [] w w') : Rg K vf w' b r L R := h.kept hk (by simp) (by simp)
theorem del_self {x : κ} : ∀ {L : Es κ α}, x ∉ L.map (·.1) → del x L = L := fun {L} h => List.filter_eq_self.2 (fun p hp => by
  have : p.1 ≠ x := fun e => h (List.mem_map.2 ⟨p, hp, e⟩)
  simp [this])
theorem perm_del {x : κ} {u : α} : ∀ {L : Es κ α}, ND L → (x, u) ∈ L → L.Perm ((x, u) :: del x L)
  | [], _, h => by simp at h
  | q :: s, hn, hm => by
    obtain ⟨n1, n2⟩ := List.nodup_cons.1 hn
    rcases List.mem_cons.1 hm with rfl | hm
    · have : del x ((x, u) :: s) = s := by
        have hs := del_self (x := x) (L := s) n1
        unfold del at hs ⊢
        rw [List.filter_cons_of_neg (by simp)]; exact hs
      rw [this]
    · have hqx : q.1 ≠ x := fun e => n1 (List.mem_map.2 ⟨(x, u), hm, e.symm⟩)
      have : del x (q :: s) = q :: del x s := by unfold del; rw [List.filter_cons_of_pos (by simp [hqx])]
      rw [this]
      exact ((perm_del n2 hm).cons q).trans (List.Perm.swap _ _ _)
end MapS
end Go.Proofs.YtpobepninifenaaGreat

namespace Go.Proofs.YtpobepninifenaaGreat
open Go.RowKit

/-- What is still to come of the recorded answers. -/
theorem LR.next {w : World} {R R' : List (Qn × AnV)} {Y : List (Qn × Ans)} {x : Qn} {u : AnV} (h : LR w R Y) (hn : MapS.ND R) (hY : MapS.ND Y) (hm : (x, u) ∈ R) (hp : R.Perm ((x, u) :: R')) :
    ∃ y, InA w u y ∧ Y.Perm ((x, y) :: MapS.del x Y) ∧ LR w R' (MapS.del x Y) ∧ MapS.ND (MapS.del x Y) := by
  have hgx := MapS.get_of_mem hn hm
  rcases h.2 x with ⟨h1, _⟩ | ⟨u', y, h1, h2, h3⟩
  · rw [hgx] at h1; cases h1
  · rw [hgx] at h1
    cases h1
    have hpy := MapS.perm_del hY (MapS.get_mem h2)
    refine ⟨y, h3, hpy, ⟨?_, fun q => ?_⟩, MapS.nd_del hY⟩
    · have e1 := hp.length_eq
      have e2 := hpy.length_eq
      have e3 := h.1
      simp at e1 e2; omega
    · have hn' : MapS.ND ((x, u) :: R') := by
        have h1 : (R.map (fun p => p.1)).Nodup := hn
        exact (hp.map (fun p => p.1)).nodup_iff.1 h1
      have hg : MapS.get q R = MapS.get q ((x, u) :: R') := MapS.get_perm hn' hp.symm
      have hnx : MapS.get x R' = none := MapS.get_none.2 (fun p hp e => (List.nodup_cons.1 hn').1 (List.mem_map.2 ⟨p, hp, e⟩))
      rw [MapS.get_del]
      by_cases e : q = x
      · subst e
        exact .inl ⟨hnx, by rw [if_pos rfl]⟩
      · rw [if_neg e]
        have : MapS.get q R' = MapS.get q R := by
          rw [hg]
          have e' : ¬ x = q := fun h => e h.symm
          simp [MapS.get, e']
        rw [this]
        exact h.2 q
/-- A sorted list of answers is the only one. -/
theorem sortedA_uniq : ∀ {Y Z : List Ans}, Y.Perm Z → Y.Pairwise (fun x y => qlt x.q y.q) → Z.Pairwise (fun x y => qlt x.q y.q) → Y = Z
  | [], Z, hp, _, _ => by simpa using hp.symm
  | y :: Y, [], hp, _, _ => by simp at hp
  | y :: Y, z :: Z, hp, h1, h2 => by
    have e : y = z := by
      obtain ⟨a1, _⟩ := List.pairwise_cons.1 h1
      obtain ⟨b1, _⟩ := List.pairwise_cons.1 h2
      have hy : y ∈ z :: Z := hp.mem_iff.1 (by simp)
      have hz : z ∈ y :: Y := hp.mem_iff.2 (by simp)
      rcases List.mem_cons.1 hy with e | hy
      · exact e
      · rcases List.mem_cons.1 hz with e | hz
        · exact e.symm
        · exact absurd (qlt_trans (a1 z hz) (b1 y hy)) (qlt_irrefl _)
    subst e
    rw [sortedA_uniq (List.perm_cons _ |>.1 hp) (List.pairwise_cons.1 h1).2 (List.pairwise_cons.1 h2).2]
/-- The recorded answers in their order. -/
def SortedA (t : Tr) (Y : List Ans) : Prop := Y.Perm (t.rec'.map (·.2)) ∧ Y.Pairwise (fun x y => qlt x.q y.q)
theorem SortedA.uniq {t : Tr} {Y Z : List Ans} (h : SortedA t Y) (h2 : SortedA t Z) : Y = Z := sortedA_uniq (h.1.trans h2.1.symm) h.2 h2.2
/-- The order of cells and of answers. -/
theorem LA.perm {w : World} {X X' : List AnV} {Y : List Ans} (h : LA w X Y) (hp : X'.Perm X) : ∃ Y', Y'.Perm Y ∧ LA w X' Y' := by
  induction hp generalizing Y with
  | nil => exact ⟨Y, List.Perm.refl _, h⟩
  | @cons x l1 l2 hp ih =>
    cases Y with
    | nil => have := h.1; simp at this
    | cons y Y =>
      have h0 := h.2 0 x y rfl rfl
      obtain ⟨Y', p, hl⟩ := ih (Y := Y) ⟨by have := h.1; simpa using this, fun k a b ha hb => h.2 (k + 1) a b (by simpa using ha) (by simpa using hb)⟩
      refine ⟨y :: Y', p.cons y, by simp [hl.1], fun k a b ha hb => ?_⟩
      cases k with
      | zero => simp at ha hb; subst ha hb; exact h0
      | succ k => exact hl.2 k a b (by simpa using ha) (by simpa using hb)
  | @swap x y l =>
    match Y, h with
    | [], h => have := h.1; simp at this
    | [_], h => have := h.1; simp at this
    | a :: b :: Y, h =>
      have h0 := h.2 0 _ _ rfl rfl
      have h1 := h.2 1 _ _ rfl rfl
      refine ⟨b :: a :: Y, List.Perm.swap _ _ _, by have := h.1; simpa using this, fun k u v hu hv => ?_⟩
      match k with
      | 0 => simp at hu hv; subst hu hv; exact h1
      | 1 => simp at hu hv; subst hu hv; exact h0
      | k + 2 => exact h.2 (k + 2) u v (by simpa using hu) (by simpa using hv)
  | trans p1 p2 ih1 ih2 =>
    obtain ⟨Y1, q1, h1⟩ := ih2 h
    obtain ⟨Y2, q2, h2⟩ := ih1 h1
    exact ⟨Y2, q2.trans q1, h2⟩
theorem LA.keys {w : World} {X : List AnV} {Y : List Ans} (h : LA w X Y) : X.map AnV.q = Y.map Ans.q := by
  refine List.ext_getElem (by simp [h.1]) (fun k h1 h2 => ?_)
  simp only [List.getElem_map]
  exact (h.2 k _ _ (List.getElem?_eq_getElem _) (List.getElem?_eq_getElem _)).q
set_option maxRecDepth 100000 in
set_option maxHeartbeats 10000000 in
theorem answers_c (w : World) (B bt bm : Nat) (vo vh vg : Value) (t : Tr) (h : TrM w B bt bm vo vh vg t) (hl : t.qs.length ≤ 100000) :
    Calls Tryz.prog 92 #[.pointer (some ⟨bt, 0, none⟩)] w fun e w' => ∃ v X Y, e = .returned v ∧ shA.O w' w.heap.size tA v X ∧ LA w' X Y ∧ SortedA t Y ∧ Keeps [] w w' := by
  obtain ⟨R, hR, hRL⟩ := h.mp
  have hrl := (rec_len t.qs).1
  have hnd := recOf_nd h.inv.nd
  have hro := h.inv.ro
  have hrq := h.inv.rq
  have c7 := h.cells.2.2.2.2.2.2.2.1
  have hlt := h.lt
  have hRlen : R.length ≤ 100000 := by have := hRL.1; simp only [Tr.rec'] at this; omega
  replace hR := Lib.hid hR
  replace hRL := Lib.hid hRL
  replace hnd := Lib.hid hnd
  replace hro := Lib.hid hro
  replace hrq := Lib.hid hrq
  clear h
  go_enter Tryz.func92, Tryz.ntmps92
  go_wp2_with (at_range; refine MapS.wpl_range ktQ rfl _ rfl Tryz.underlying115 rfl hR.out ?_; intro w1 hrg1 hg1 hs1)
  have hk1 : Keeps [] w w1 := (Keeps.refl [] w).grown hg1 (by simp)
  have hRL1 := hRL.out.ki hk1.ki0
  have hns : (t.rec'.map (fun p => p.1)).Nodup := hnd.out
  replace hrg1 := Lib.hid hrg1
  replace hk1 := Lib.hid hk1
  replace hRL1 := Lib.hid hRL1
  replace hns := Lib.hid hns
  clear hR hRL hg1
  go_frame
  go_loopg [3] R.length (fun n ov wr => ∃ (rs : List (Qn × AnV)) (Yd Yr : List (Qn × Ans)) (X : List AnV), n = rs.length ∧ Hid (MapS.Rg ktQ aV wr bm w.heap.size R rs) ∧ Hid (LR wr rs Yr) ∧ Hid (MapS.ND Yr) ∧ Hid ((Yd ++ Yr).Perm t.rec') ∧ Hid (shA.O wr w.heap.size tA ov X) ∧ Hid (LA wr X (Yd.map (·.2))) ∧ Hid (Keeps [] w wr))
  case atStart => exact ⟨R, [], t.rec', [], rfl, hrg1, hRL1, hnd, by simp [Hid], Sh.O.nil _ _ _ _, LA.nil _, hk1⟩
  case round =>
    obtain ⟨rs, Yd, Yr, X, rfl, hrg, hLR, hNr, hP, hO, hLA, hkw⟩ := hrel
    obtain ⟨oa, oc, rfl⟩ := hO.out.form
    obtain ⟨NN, hNN⟩ : ∃ n, X.length = n := ⟨_, rfl⟩
    have hNl : NN ≤ 100000 := by
      have h1 := hP.out.length_eq
      have h2 := hLA.out.1
      have h3 : t.rec'.length = (recOf t.qs).length := rfl
      simp at h1 h2; omega
    rw [hNN] at hO ⊢
    replace hNN := Lib.hid hNN
    go_wp2_with (at_next; refine MapS.wpl_next ktQ rfl _ rfl rfl hrg.out ?_ ?_)
    case _ =>
      intro hrs
      subst hrs
      have hYr : Yr = [] := by have := hLR.out.1; simpa [eq_comm] using this
      subst hYr
      have hP2 : Yd.Perm t.rec' := by simpa using hP.out
      have hsort := sortA_c wr w.heap.size _ X hO.out (by rw [hNN.out]; omega)
      replace hsort := Lib.hid hsort
      replace hP2 := Lib.hid hP2
      clear hP hrg hLR hNr
      go_wp2_with fail
      refine hsort.out.mono ?_
      rintro e w2 ⟨rfl, X', hp, hpw, hO2, hk2⟩
      have hk2' : Keeps [] w w2 := hkw.out.fresh hk2 (fun b hb => .inr (hO.out.ge b (by simpa using hb)))
      have hi2 : KI wr w2 := hk2.ki (fun b hb cs f e => by
        obtain ⟨cs', hc⟩ := hO.out.tag b (by simpa using hb)
        exact tag_ne hc e (by decide) rfl)
      obtain ⟨Y', hpy, hL2⟩ := (hLA.out.ki hi2).perm hp
      have hPY : Y'.Perm (t.rec'.map (·.2)) := hpy.trans (hP2.out.map _)
      have hkeys : (t.rec'.map (·.2)).map Ans.q = t.rec'.map (fun p => p.1) := by
        rw [List.map_map]
        exact List.map_congr_left (fun p hp => hrq.out p hp)
      have hnY : (Y'.map Ans.q).Nodup := by
        have := (hPY.map Ans.q)
        rw [hkeys] at this
        exact this.nodup_iff.2 hns.out
      have hpY : (Y'.map Ans.q).Pairwise (fun x y => ¬ qlt y x) := by
        rw [← hL2.keys]
        exact List.pairwise_map.2 hpw
      have hstr : Y'.Pairwise (fun x y => qlt x.q y.q) := by
        have := List.Pairwise.and hpY hnY
        exact List.pairwise_map.1 (this.imp (fun {x y} h => by
          by_cases h2 : qlt x y
          · exact h2
          · exact absurd (qlt_total h2 h.1) h.2))
      have hfin : ∃ Xa Ya, shA.O w2 w.heap.size tA (.slice oa NN oc) Xa ∧ LA w2 Xa Ya ∧ SortedA t Ya ∧ Keeps [] w w2 := ⟨X', Y', hO2, hL2, ⟨hPY, hstr⟩, hk2'⟩
      replace hfin := Lib.hid hfin
      clear hpw hO2 hk2 hk2' hi2 hpy hL2 hPY hkeys hnY hpY hstr hp hsort hO hLA hkw
      go_wp2
      go_ret
      obtain ⟨Xa, Ya, f1, f2, f3, f4⟩ := hfin.out
      exact ⟨_, Xa, Ya, rfl, f1, f2, f3, f4⟩
    case _ =>
      intro x0 x1 x2 u R' w2 hok hgu hum hperm hrg2 hg2 hs2 hen
      have hns2 : MapS.ND rs := by obtain ⟨_, _, h3, _⟩ := hrg.out; exact h3
      obtain ⟨y, hxy, hpY, hLR2, hN2⟩ := hLR.out.next hns2 hNr.out hum hperm
      have hk2 : Keeps [] w w2 := hkw.out.grown hg2 (fun k e => by simp at e; subst e; exact .inl (Nat.le_refl _))
      have hk2r : Keeps [w.heap.size] wr w2 := Keeps.of_grown hg2
      have hi2 : KI wr w2 := hk2r.ki (fun b hb cs f e => by
        simp at hb; subst hb
        obtain ⟨⟨n, D, left, cnt, ⟨es, clock, since, seen, c0, e1, F, hs, hD, e2, rest⟩, hR⟩, _⟩ := hrg.out
        rw [e2] at e; cases e)
      have hO2 : shA.O w2 w.heap.size tA (.slice oa NN oc) X := hO.out.keepS hk2r (fun b hb e => by
        simp at hb; subst hb
        obtain ⟨cs, hc⟩ := hO.out.tag _ e
        obtain ⟨⟨n, D, left, cnt, ⟨es, clock, since, seen, c0, e1, F, hs, hD, e2, rest⟩, hR⟩, _⟩ := hrg.out
        rw [hc] at e2; cases e2)
      have hLA2 := hLA.out.ki hi2
      have hyo : y.Ok := by
        have : (( x0, x1, x2), y) ∈ t.rec' := hP.out.mem_iff.1 (List.mem_append_right _ (hpY.mem_iff.2 (by simp)))
        exact hro.out _ this
      have hxy2 := hxy.ki hi2
      have hLR3 := hLR2.ki hi2
      have hrl2 : R'.length < rs.length := by have := hperm.length_eq; simp at this; omega
      have hP3 : ((Yd ++ [((x0, x1, x2), y)]) ++ MapS.del (x0, x1, x2) Yr).Perm t.rec' := by
        rw [List.append_assoc]
        exact ((List.Perm.refl Yd).append hpY.symm).trans hP.out
      obtain ⟨u0, u1, u2, u3, u4, u5, u6, u7, u8, u9⟩ := u
      have hcop := fun (W : World) (hk : Keeps [] w2 W) => copied_c W ⟨u0, u1, u2, u3, u4, u5, u6, u7, u8, u9⟩ y.ins (hxy2.ins.r.keeps hk) (by have := hyo.len; omega)
      simp only [ktQ, qV, aV, AnV.v] at hen hcop
      replace hcop := Lib.hid hcop
      replace hxy2 := Lib.hid hxy2
      replace hLR3 := Lib.hid hLR3
      replace hP3 := Lib.hid hP3
      replace hN2 := Lib.hid hN2
      replace hrg2 := Lib.hid hrg2
      replace hO2 := Lib.hid hO2
      replace hLA2 := Lib.hid hLA2
      replace hk2 := Lib.hid hk2
      clear hg2 hk2r hi2 hxy hpY hLR2 hns2 hgu hum hok hyo hP hrg hLR hNr hO hLA hkw hperm
      go_wp2_with fail
      refine (hcop.out _ ((Keeps.refl [] _).alloc _)).mono ?_
      rintro e w3 ⟨⟨z0, z1, z2, z3, z4, z5, z6, z7, z8, z9⟩, rfl, f0, f1, f2, f3, f4, f5, f6, hIO, hk3⟩
      simp only at f0 f1 f2 f3 f4 f5 f6
      subst f0 f1 f2 f3 f4 f5 f6
      have hk23 : Keeps [] w2 w3 := ((Keeps.refl [] w2).alloc _).trans hk3
      have hO3 := (hO2.out.keeps hk23).keeps ((Keeps.refl [] w3).alloc (.cells #[.int .i64 z0, .int .i64 z1, .int .u64 z2, .int .i64 z3, .bool z4, .bool z5, .int .i64 z6, .slice z7 z8 z9] tA))
      have hk34 := hk23.trans ((Keeps.refl [] w3).alloc (.cells #[.int .i64 z0, .int .i64 z1, .int .u64 z2, .int .i64 z3, .bool z4, .bool z5, .int .i64 z6, .slice z7 z8 z9] tA))
      have hmade := Sh.O.one shA w3 (⟨z0, z1, z2, z3, z4, z5, z6, z7, z8, z9⟩ : AnV) #[.int .i64 z0, .int .i64 z1, .int .u64 z2, .int .i64 z3, .bool z4, .bool z5, .int .i64 z6, .slice z7 z8 z9] tA 0 rfl (by omega)
      have hwz := (hk2.out.trans hk34).size
      have hxy3 : InA w3 ⟨z0, z1, z2, z3, z4, z5, z6, z7, z8, z9⟩ y := ⟨hxy2.out.m, hxy2.out.ow, hxy2.out.n, hxy2.out.ep, hxy2.out.kn, hxy2.out.rt, hxy2.out.lu, hIO⟩
      simp only [AnV.v] at hIO
      replace hO3 := Lib.hid hO3
      replace hk34 := Lib.hid hk34
      replace hmade := Lib.hid hmade
      replace hxy3 := Lib.hid hxy3
      clear hO2 hcop hIO hk3 hk23 hxy2
      go_wp2_with (at_builtin; go_loud (refine Sh.wpl_app shA w.heap.size infoA rfl Tryz.underlying67 (.slice oa NN oc) (.slice (some ⟨w3.heap.size, 0, none⟩) 1 1) X [(⟨z0, z1, z2, z3, z4, z5, z6, z7, z8, z9⟩ : AnV)] rfl _ _ rfl rfl rfl hO3.out hmade.out.r (by rw [hNN.out]; simp; omega) (by simp at hwz; simp; omega) ?_; intro v5 w5 hO5 hG5; have hk45 := Sh.O.grew (hk2.out.trans hk34.out) hO3.out hG5 (Nat.le_refl _); have hGk := hG5.keepsO; clear hG5; replace hO5 := Lib.hid hO5; replace hk45 := Lib.hid hk45; replace hGk := Lib.hid hGk))
      have hi35 : KI (w3.alloc (.cells #[.int .i64 z0, .int .i64 z1, .int .u64 z2, .int .i64 z3, .bool z4, .bool z5, .int .i64 z6, .slice z7 z8 z9] tA)) w5 := hGk.out.ki (fun b hb cs f e => by
        obtain ⟨cs', hc⟩ := hO3.out.tag b (by simpa using hb)
        exact tag_ne hc e (by decide) rfl)
      have hi25 : KI w2 w5 := hk34.out.ki0.trans hi35
      have hrg3 := hrg2.out.keeps hk34.out
      have hnot : ∀ b, (∃ es c, w2.heap[b]? = some (Obj.map es c)) ∨ (∃ a s n c, w2.heap[b]? = some (Obj.mapIter a s n c)) → b < w2.heap.size → b ∉ (Value.slice oa NN oc).ownBlock.toList := fun b hb hl hm => by
        obtain ⟨cs', hc⟩ := hO3.out.tag b (by simpa using hm)
        rw [hk34.out.block b hl (by simp)] at hc
        rcases hb with ⟨es, c, e⟩ | ⟨a, s, n, c, e⟩
        · rw [e] at hc; cases hc
        · rw [e] at hc; cases hc
      have hrg5 : MapS.Rg ktQ aV w5 bm w.heap.size R R' := by
        obtain ⟨l1, l2, _⟩ := hrg2.out.lt
        obtain ⟨⟨n, D, left, cnt, ⟨es, clock, since, seen, c0, e1, F, hs, hD, e2, rest⟩, hR⟩, _⟩ := id hrg2.out
        exact hrg3.kept hGk.out (hnot _ (.inl ⟨_, _, e1⟩) l1) (hnot _ (.inr ⟨_, _, _, _, e2⟩) l2)
      have hL5 := (hLA2.out.ki hi25).snoc (hxy3.out.ki (((Keeps.refl [] w3).alloc _).ki0.trans hi35))
      rw [show Yd.map (·.2) ++ [y] = (Yd ++ [((x0, x1, x2), y)]).map (·.2) by simp] at hL5
      have hLR5 := hLR3.out.ki hi25
      replace hrg5 := Lib.hid hrg5
      replace hL5 := Lib.hid hL5
      replace hLR5 := Lib.hid hLR5
      clear hi35 hi25 hrg3 hnot hrg2 hLA2 hLR3 hO3 hk34 hGk hxy3 hmade
      go_wp2
      go_roundg R'.length
      case measure => exact hrl2
      case rel => exact ⟨R', _, _, _, rfl, hrg5, hLR5, hN2, hP3, hO5, hL5, hk45⟩
end Go.Proofs.YtpobepninifenaaGreat

namespace Go.Proofs.YtpobepninifenaaGreat
open Go.RowKit

/-- A claim. -/
structure PCl where
  m : Int
  ep : Int
  st : List T3
  sc : List T3
  ch : List T3
  deriving DecidableEq
def PCl.at (x : PCl) : Nat → List T3
  | 0 => x.st
  | 1 => x.sc
  | _ => x.ch
def PCl.upd (x : PCl) (j : Nat) (L : List T3) : PCl := match j with
  | 0 => { x with st := L }
  | 1 => { x with sc := L }
  | _ => { x with ch := L }
abbrev SlT := Option Addr × Nat × Nat
abbrev nilT : SlT := (none, 0, 0)
def rowsC (P : List PCl) (V : Nat → Nat → SlT) : List ClV := P.mapIdx (fun k p => ⟨p.m, p.ep, V k 0, V k 1, V k 2⟩)
theorem rowsC_len (P : List PCl) (V : Nat → Nat → SlT) : (rowsC P V).length = P.length := by simp [rowsC]
theorem rowsC_get (P : List PCl) (V : Nat → Nat → SlT) (k : Nat) (hk : k < P.length) : (rowsC P V)[k]'(by rw [rowsC_len]; exact hk) = ⟨P[k].m, P[k].ep, V k 0, V k 1, V k 2⟩ := by simp [rowsC]
def updV (V : Nat → Nat → SlT) (k j : Nat) (v : SlT) : Nat → Nat → SlT := fun a b => if a = k ∧ b = j then v else V a b
structure CL (w : World) (B : Nat) (vc : Value) (P : List PCl) (V : Nat → Nat → SlT) : Prop where
  c : shC.O w B tC vc (rowsC P V)
  o : ∀ k j (hk : k < P.length), j < 3 → shT.O w B tN (slv (V k j)) (P[k].at j)
  d : ∀ k j k' j' b, k < P.length → j < 3 → k' < P.length → j' < 3 → (slv (V k j)).ownBlock = some b → (slv (V k' j')).ownBlock = some b → k = k' ∧ j = j'
theorem CL.nil (w : World) (B : Nat) (V : Nat → Nat → SlT) : CL w B (.slice none 0 0) [] V := ⟨Sh.O.nil _ _ _ _, fun k j hk => by simp at hk, fun k j k' j' b hk => by simp at hk⟩
namespace CL
variable {w w' : World} {B : Nat} {vc vc' : Value} {P : List PCl} {V : Nat → Nat → SlT}
theorem keeps (h : CL w B vc P V) (hk : Keeps [] w w') : CL w' B vc P V := ⟨h.c.keeps hk, fun k j h1 h2 => (h.o k j h1 h2).keeps hk, h.d⟩
/-- The rows' blocks are no needs' blocks. -/
theorem ne (h : CL w B vc P V) {k j b : Nat} (hk : k < P.length) (hj : j < 3) (h1 : (slv (V k j)).ownBlock = some b) : vc.ownBlock ≠ some b := fun e => by
  obtain ⟨cs, h2⟩ := (h.o k j hk hj).tag b h1
  obtain ⟨cs', h3⟩ := h.c.tag b e
  exact tag_ne h2 h3 (by decide) rfl
theorem push (h : CL w B vc P V) (m ep : Int) (hG : Grw w w' vc vc') (hO : shC.O w' B tC vc' (rowsC P V ++ [⟨m, ep, nilT, nilT, nilT⟩])) :
    CL w' B vc' (P ++ [⟨m, ep, [], [], []⟩]) (fun a b => if a = P.length then nilT else V a b) := by
  have hk := hG.keepsO
  refine ⟨?_, fun k j hk2 hj => ?_, fun k j k' j' b h1 h2 h3 h4 e1 e2 => ?_⟩
  · have e : rowsC (P ++ [⟨m, ep, [], [], []⟩]) (fun a b => if a = P.length then nilT else V a b) = rowsC P V ++ [⟨m, ep, nilT, nilT, nilT⟩] := by
      refine List.ext_getElem (by simp [rowsC_len]) (fun k h1 h2 => ?_)
      have hk1 : k < P.length + 1 := by simpa [rowsC_len] using h1
      rw [rowsC_get _ _ k (by simpa using hk1)]
      by_cases e : k = P.length
      · subst e
        simp [List.getElem_append, rowsC_len]
      · have hlt : k < P.length := by omega
        rw [show (rowsC P V ++ [⟨m, ep, nilT, nilT, nilT⟩])[k] = (rowsC P V)[k]'(by rw [rowsC_len]; exact hlt) from List.getElem_append_left _, rowsC_get P V k hlt]
        simp [List.getElem_append_left hlt, e]
    rw [e]; exact hO
  · by_cases e : k = P.length
    · subst e
      simp only [if_true]
      have : (P ++ [(⟨m, ep, [], [], []⟩ : PCl)])[P.length].at j = [] := by
        simp only [List.getElem_concat_length]
        unfold PCl.at; split <;> rfl
      rw [this]
      exact Sh.O.nil _ _ _ _
    · have hlt : k < P.length := by simp at hk2; omega
      simp only [if_neg e, List.getElem_append_left hlt]
      refine (h.o k j hlt hj).keepS hk (fun b hb e => ?_)
      exact h.ne hlt hj e (by simpa using hb)
  · have n1 : k ≠ P.length := fun e => by subst e; simp [slv, Value.ownBlock] at e1
    have n2 : k' ≠ P.length := fun e => by subst e; simp [slv, Value.ownBlock] at e2
    simp only [if_neg n1] at e1
    simp only [if_neg n2] at e2
    simp at h1 h3
    exact h.d k j k' j' b (by omega) h2 (by omega) h4 e1 e2
theorem at_upd (x : PCl) (j j' : Nat) (L : List T3) (hj : j < 3) (hj' : j' < 3) : (x.upd j L).at j' = if j' = j then L else x.at j' := by
  match j, j', hj, hj' with
  | 0, 0, _, _ => rfl
  | 0, 1, _, _ => rfl
  | 0, 2, _, _ => rfl
  | 1, 0, _, _ => rfl
  | 1, 1, _, _ => rfl
  | 1, 2, _, _ => rfl
  | 2, 0, _, _ => rfl
  | 2, 1, _, _ => rfl
  | 2, 2, _, _ => rfl
theorem upd_m (x : PCl) (j : Nat) (L : List T3) : (x.upd j L).m = x.m ∧ (x.upd j L).ep = x.ep := by unfold PCl.upd; split <;> exact ⟨rfl, rfl⟩
/-- One list of needs turns, in its own block. -/
theorem turn (h : CL w B vc P V) {k j : Nat} (hk : k < P.length) (hj : j < 3) {L' : List T3} (hK : Keeps (slv (V k j)).ownBlock.toList w w') (hO : shT.O w' B tN (slv (V k j)) L') : CL w' B vc (P.set k (P[k].upd j L')) V := by
  refine ⟨?_, fun k' j' hk' hj' => ?_, fun k' j' k2 j2 b h1 h2 h3 h4 e1 e2 => h.d k' j' k2 j2 b (by simpa using h1) h2 (by simpa using h3) h4 e1 e2⟩
  · have e : rowsC (P.set k (P[k].upd j L')) V = rowsC P V := by
      refine List.ext_getElem (by simp [rowsC_len]) (fun i h1 h2 => ?_)
      have hi : i < P.length := by simpa [rowsC_len] using h2
      rw [rowsC_get _ _ i (by simpa using hi), rowsC_get P V i hi]
      rw [List.getElem_set]
      split
      · rename_i e; subst e; rw [(upd_m _ _ _).1, (upd_m _ _ _).2]
      · rfl
    rw [e]
    exact h.c.keepS hK (fun b hb e => h.ne hk hj (by simpa using hb) e)
  · have hk2 : k' < P.length := by simpa using hk'
    rw [List.getElem_set]
    by_cases e : k = k'
    · subst e
      rw [if_pos rfl, at_upd _ _ _ _ hj hj']
      by_cases ej : j' = j
      · subst ej; rw [if_pos rfl]; exact hO
      · rw [if_neg ej]
        exact (h.o k j' hk hj').keepS hK (fun b hb e => ej (h.d k j k j' b hk hj hk hj' (by simpa using hb) e).2.symm)
    · rw [if_neg e]
      exact (h.o k' j' hk2 hj').keepS hK (fun b hb e2 => e (h.d k j k' j' b hk hj hk2 hj' (by simpa using hb) e2).1)
/-- One list of needs has grown; the row's cell is stored. -/
theorem app {g n c : Nat} (h : CL w B (.slice (some ⟨g, 0, none⟩) n c) P V) {k j : Nat} (hk : k < P.length) (hj : j < 3) {L' : List T3} {v' : SlT} (hG : Grw w w' (slv (V k j)) (slv v')) (hO : shT.O w' B tN (slv v') L') :
    CL (w'.setCell ⟨g, k * 5 + (2 + j), none⟩ (slv v')) B (.slice (some ⟨g, 0, none⟩) n c) (P.set k (P[k].upd j L')) (updV V k j v') := by
  have hK := hG.keepsO
  have hcK : shC.O w' B tC (.slice (some ⟨g, 0, none⟩) n c) (rowsC P V) := h.c.keepS hK (fun b hb e => h.ne hk hj (by simpa using hb) e)
  have hk2 : Keeps [g] w' (w'.setCell ⟨g, k * 5 + (2 + j), none⟩ (slv v')) := (Keeps.refl _ _).setCell (.inr (by simp)) _
  have hgt : ∃ cs, w'.heap[g]? = some (Obj.cells cs tC (0, 0)) := hcK.tag g (by simp [Value.ownBlock])
  have hne : ∀ {L : List T3} {v : Value}, shT.O w' B tN v L → v.ownBlock ≠ some g := fun hO e => by
    obtain ⟨cs, hc⟩ := hO.tag g e
    obtain ⟨cs', hc'⟩ := hgt
    exact tag_ne hc hc' (by decide) rfl
  refine ⟨?_, fun k' j' hk' hj' => ?_, fun k' j' k2 j2 b h1 h2 h3 h4 e1 e2 => ?_⟩
  · have hkr : k < (rowsC P V).length := by rw [rowsC_len]; exact hk
    have hs := hcK.set hkr ⟨P[k].m, P[k].ep, updV V k j v' k 0, updV V k j v' k 1, updV V k j v' k 2⟩ (2 + j) (slv v') (by
      rw [rowsC_get P V k hk]
      match j, hj with
      | 0, _ => simp [shC, ClV.cs, updV]
      | 1, _ => simp [shC, ClV.cs, updV]
      | 2, _ => simp [shC, ClV.cs, updV]) (by show 2 + j < 5; omega) rfl
    have e : rowsC (P.set k (P[k].upd j L')) (updV V k j v') = (rowsC P V).set k ⟨P[k].m, P[k].ep, updV V k j v' k 0, updV V k j v' k 1, updV V k j v' k 2⟩ := by
      refine List.ext_getElem (by simp [rowsC_len]) (fun i h1 h2 => ?_)
      have hi : i < P.length := by simpa [rowsC_len] using h2
      rw [rowsC_get _ _ i (by simpa using hi), List.getElem_set, List.getElem_set]
      by_cases e : k = i
      · subst e; rw [if_pos rfl, if_pos rfl, (upd_m _ _ _).1, (upd_m _ _ _).2]
      · have e' : ¬ i = k := fun h => e h.symm
        rw [if_neg e, if_neg e, rowsC_get P V i hi]
        simp [updV, e']
    rw [e]; exact hs
  · have hk3 : k' < P.length := by simpa using hk'
    rw [List.getElem_set]
    by_cases e : k = k'
    · subst e
      rw [if_pos rfl, at_upd _ _ _ _ hj hj']
      by_cases ej : j' = j
      · subst ej
        rw [if_pos rfl]
        simp only [updV, and_self, if_true]
        exact hO.keepS hk2 (fun b hb e => by simp at hb; subst hb; exact hne hO e)
      · rw [if_neg ej]
        simp only [updV, ej, and_false, if_false]
        have h1 : shT.O w' B tN (slv (V k j')) (P[k].at j') := (h.o k j' hk hj').keepS hK (fun b hb e => ej (h.d k j k j' b hk hj hk hj' (by simpa using hb) e).2.symm)
        exact h1.keepS hk2 (fun b hb e => by simp at hb; subst hb; exact hne h1 e)
    · rw [if_neg e]
      have e' : ¬ k' = k := fun h => e h.symm
      simp only [updV, e', false_and, if_false]
      have h1 : shT.O w' B tN (slv (V k' j')) (P[k'].at j') := (h.o k' j' hk3 hj').keepS hK (fun b hb e2 => e (h.d k j k' j' b hk hj hk3 hj' (by simpa using hb) e2).1)
      exact h1.keepS hk2 (fun b hb e => by simp at hb; subst hb; exact hne h1 e)
  · have l1 : k' < P.length := by simpa using h1
    have l2 : k2 < P.length := by simpa using h3
    have old : ∀ a c, a < P.length → c < 3 → (slv (V a c)).ownBlock = some b → b < w.heap.size := fun a c ha hc e => (h.o a c ha hc).lt b e
    by_cases c1 : k' = k ∧ j' = j
    · by_cases c2 : k2 = k ∧ j2 = j
      · exact ⟨c1.1.trans c2.1.symm, c1.2.trans c2.2.symm⟩
      · exfalso
        obtain ⟨rfl, rfl⟩ := c1
        simp only [updV, and_self, if_true] at e1
        simp only [updV, if_neg c2] at e2
        rcases hG.own with e3 | ⟨q, e3, hq⟩
        · rw [e3] at e1
          have := h.d k' j' k2 j2 b l1 h2 l2 h4 e1 e2
          exact c2 ⟨this.1.symm, this.2.symm⟩
        · rw [e3] at e1; cases e1
          have := old k2 j2 l2 h4 e2; omega
    · by_cases c2 : k2 = k ∧ j2 = j
      · exfalso
        obtain ⟨rfl, rfl⟩ := c2
        simp only [updV, and_self, if_true] at e2
        simp only [updV, if_neg c1] at e1
        rcases hG.own with e3 | ⟨q, e3, hq⟩
        · rw [e3] at e2
          exact c1 (h.d k' j' k2 j2 b l1 h2 l2 h4 e1 e2)
        · rw [e3] at e2; cases e2
          have := old k' j' l1 h2 e1; omega
      · simp only [updV, if_neg c1] at e1
        simp only [updV, if_neg c2] at e2
        exact h.d k' j' k2 j2 b l1 h2 l2 h4 e1 e2
end CL
end Go.Proofs.YtpobepninifenaaGreat

namespace Go.Proofs.YtpobepninifenaaGreat
open Go.RowKit

abbrev tE : Nat := 209
theorem eLaw : WideMaps.KeyLaw Tryz.prog tE := deep_law_laid laidOut (m := 4) (by omega) (of_decide_eq_true (by kernel_rfl)) (by kernel_rfl) (by rw [Tryz.underlying209])
theorem e_key (x : Qn) (h : qOk x) : ∃ l, keyOf Tryz.prog tE (qV x) = some l := by
  obtain ⟨m, o, n⟩ := x
  obtain ⟨hm, ho, hn⟩ := h
  simp only at hm ho hn
  obtain ⟨d, hd⟩ : ∃ d, Tryz.prog.types.size = d + 2 := ⟨Tryz.prog.types.size - 2, by have : 2 ≤ Tryz.prog.types.size := of_decide_eq_true (by kernel_rfl); omega⟩
  have h1 : Tryz.prog.keyType tE = true := by kernel_rfl
  have h2 : (qV (m, o, n)).formed Tryz.prog tE = true := by kernel_rfl
  have c1 : Tryz.prog.cellsOf tE = 3 := by kernel_rfl
  have c3 : Tryz.prog.cellsOf 3 = 1 := by kernel_rfl
  have c4 : Tryz.prog.cellsOf 34 = 1 := by kernel_rfl
  unfold keyOf
  simp only [Tryz.underlying209, h1, h2, hd, Bool.and_self, if_true]
  have hk : Tryz.prog.keyLits (d + 2 + 1) tE (qV (m, o, n)).cells.toList = some [.int .i64 m, .int .i64 o, .int .u64 n] := by
    have wm : (Lit.int .i64 m).wf = true := hm
    have wo : (Lit.int .i64 o).wf = true := ho
    have wn := w64u hn
    simp [Program.keyLits, Tryz.underlying209, Tryz.underlying3, Tryz.underlying34, c1, c3, c4, Value.cells, wm, wo, wn]
  rw [hk]
  exact ⟨_, rfl⟩
def ktE : MapS.KT Tryz.prog tE Qn := ⟨qV, qOk, Maps.Keyed.of_law eLaw, e_key, fun x y h => by
  obtain ⟨a, b, c⟩ := x
  obtain ⟨a', b', c'⟩ := y
  simp [qV] at h
  obtain ⟨h1, h2, h3⟩ := h
  rw [h1, h2, show c = c' by omega]⟩
abbrev zV (x : Int) : Value := .int .i64 x
theorem zeroZ (w : World) : (zeroValue 3).run Tryz.prog w = .ok (zV 0) w := by kernel_rfl

def outA (m : Int) (acc : List (Qn × Int)) (x : T3) : List (Qn × Int) := if (MapS.get (m, x.1, x.2.1) acc).isSome then acc else acc ++ [((m, x.1, x.2.1), x.2.2)]
def outsA (acc : List (Qn × Int)) (a : Ans) : List (Qn × Int) := a.ins.foldl (outA a.m) acc
def outsOf (Y : List Ans) : List (Qn × Int) := Y.foldl outsA []
def luOf (t : Tr) (q : Qn) : Int := ((MapS.get q t.rec').map Ans.lu).getD 0
def updL (P : List PCl) (j : Nat) (f : List T3 → List T3) : List PCl := match P[P.length - 1]? with
  | some c => P.set (P.length - 1) (c.upd j (f (c.at j)))
  | none => P
def openC (P : List PCl) (a : Ans) : List PCl := match P[P.length - 1]? with
  | some c => if c.m = a.m then P else P ++ [⟨a.m, a.ep, [], [], []⟩]
  | none => P ++ [⟨a.m, a.ep, [], [], []⟩]
def newC (P : List PCl) (a : Ans) : Bool := match P[P.length - 1]? with
  | some c => decide (c.m ≠ a.m)
  | none => true
def needC (O : List (Qn × Int)) (P : List PCl) (a : Ans) : List PCl := match MapS.get (a.ow, a.m, a.n) O with
  | some o => updL P 0 (fun l => l ++ [(a.ow, a.n, o)])
  | none => updL P 2 (fun l => l ++ [(a.ow, a.n, 0)])
def addN (n : T3) (l : List T3) : List T3 := if n ∈ l then l else l ++ [n]
def scC (t : Tr) (m : Int) (P : List PCl) (x : T3) : List PCl := updL P 1 (addN (x.1, x.2.1, luOf t (x.1, m, x.2.1)))
def rawC (t : Tr) (O : List (Qn × Int)) (P : List PCl) (a : Ans) : List PCl := a.ins.foldl (scC t a.m) (needC O (openC P a) a)
def rawOf (t : Tr) (O : List (Qn × Int)) (Y : List Ans) : List PCl := Y.foldl (rawC t O) []

theorem outA_len (m : Int) (acc : List (Qn × Int)) (x : T3) : (outA m acc x).length ≤ acc.length + 1 := by unfold outA; split <;> simp
theorem out_fold_len (m : Int) : ∀ (l : List T3) (acc : List (Qn × Int)), (l.foldl (outA m) acc).length ≤ acc.length + l.length
  | [], _ => by simp
  | x :: r, acc => by
    rw [List.foldl_cons]
    have := out_fold_len m r (outA m acc x)
    have := outA_len m acc x
    simp; omega
theorem foldl_succ {α β : Type} (f : β → α → β) (b : β) (l : List α) (k : Nat) (hk : k < l.length) : (l.take (k + 1)).foldl f b = f ((l.take k).foldl f b) l[k] := by
  rw [List.take_succ_eq_append_getElem hk, List.foldl_append]; rfl
theorem foldl_all {α β : Type} (f : β → α → β) (b : β) (l : List α) : (l.take l.length).foldl f b = l.foldl f b := by rw [List.take_length]
theorem updL_len (P : List PCl) (j : Nat) (f : List T3 → List T3) : (updL P j f).length = P.length := by unfold updL; split <;> simp
theorem updL_at {P : List PCl} {n : Nat} (hn : P.length = n + 1) (j : Nat) (f : List T3 → List T3) : updL P j f = P.set n ((P[n]'(by omega)).upd j (f ((P[n]'(by omega)).at j))) := by
  unfold updL
  rw [show P.length - 1 = n by omega, List.getElem?_eq_getElem (by omega)]
theorem openC_pos (P : List PCl) (a : Ans) : ∃ n, (openC P a).length = n + 1 ∧ n ≤ P.length := by
  unfold openC
  split
  · rename_i c h
    have := (List.getElem?_eq_some_iff.1 h).1
    split
    · exact ⟨P.length - 1, by omega, by omega⟩
    · exact ⟨P.length, by simp, by omega⟩
  · exact ⟨P.length, by simp, by omega⟩
theorem openC_new {P : List PCl} {a : Ans} (h : newC P a = true) : openC P a = P ++ [⟨a.m, a.ep, [], [], []⟩] := by
  unfold newC at h
  unfold openC
  split
  · rename_i c e
    rw [e] at h
    rw [if_neg (of_decide_eq_true h)]
  · rfl
theorem openC_old {P : List PCl} {a : Ans} (h : newC P a = false) : openC P a = P := by
  unfold newC at h
  unfold openC
  split
  · rename_i c e
    rw [e] at h
    rw [if_pos (Decidable.not_not.1 (of_decide_eq_false h))]
  · rename_i e
    rw [e] at h; cases h
theorem newC_at {P : List PCl} {n : Nat} (hn : P.length = n + 1) (a : Ans) : newC P a = ((P[n]'(by omega)).m != a.m) := by
  unfold newC
  rw [show P.length - 1 = n by omega, List.getElem?_eq_getElem (by omega)]
  simp only [ne_eq, decide_not]; rfl
theorem newC_nil {P : List PCl} (hn : P.length = 0) (a : Ans) : newC P a = true := by
  unfold newC
  rw [List.getElem?_eq_none (by omega)]
theorem needC_len (O : List (Qn × Int)) (P : List PCl) (a : Ans) : (needC O P a).length = P.length := by unfold needC; split <;> exact updL_len _ _ _
theorem scC_len (t : Tr) (m : Int) (P : List PCl) (x : T3) : (scC t m P x).length = P.length := updL_len _ _ _
theorem sc_fold_len (t : Tr) (m : Int) : ∀ (l : List T3) (P : List PCl), (l.foldl (scC t m) P).length = P.length
  | [], _ => rfl
  | x :: r, P => by rw [List.foldl_cons, sc_fold_len t m r, scC_len]
theorem upd_same (x : PCl) (j : Nat) (hj : j < 3) : x.upd j (x.at j) = x := by
  match j, hj with
  | 0, _ => rfl
  | 1, _ => rfl
  | 2, _ => rfl
/-- No list is longer than this. -/
def LenLe (P : List PCl) (N : Nat) : Prop := ∀ (k : Nat) (hk : k < P.length) (j : Nat), j < 3 → (P[k].at j).length ≤ N
theorem LenLe.mono {P : List PCl} {N M : Nat} (h : LenLe P N) (hM : N ≤ M) : LenLe P M := fun k hk j hj => Nat.le_trans (h k hk j hj) hM
theorem LenLe.updL {P : List PCl} {N : Nat} (h : LenLe P N) (j : Nat) (hj : j < 3) (f : List T3 → List T3) (hf : ∀ l, (f l).length ≤ l.length + 1) : LenLe (updL P j f) (N + 1) := by
  intro k hk j' hj'
  have hk2 : k < P.length := by rw [updL_len] at hk; exact hk
  obtain ⟨n, hn⟩ : ∃ n, P.length = n + 1 := ⟨P.length - 1, by omega⟩
  have e := updL_at hn j f
  simp only [e, List.getElem_set]
  split
  · rename_i e2
    subst e2
    rw [CL.at_upd _ _ _ _ hj hj']
    split
    · have := hf (P[n].at j); have := h n (by omega) j hj; omega
    · have := h n (by omega) j' hj'; omega
  · have := h k hk2 j' hj'; omega
theorem LenLe.openC {P : List PCl} {N : Nat} (h : LenLe P N) (a : Ans) : LenLe (openC P a) N := by
  have hp : LenLe (P ++ [⟨a.m, a.ep, [], [], []⟩]) N := fun k hk j hj => by
    by_cases e : k < P.length
    · rw [List.getElem_append_left e]; exact h k e j hj
    · have : k = P.length := by simp at hk; omega
      subst this
      simp only [List.getElem_concat_length]
      unfold PCl.at; split <;> simp
  unfold Go.Proofs.YtpobepninifenaaGreat.openC
  split
  · split
    · exact h
    · exact hp
  · exact hp
theorem LenLe.needC {P : List PCl} {N : Nat} (h : LenLe P N) (O : List (Qn × Int)) (a : Ans) : LenLe (needC O P a) (N + 1) := by
  unfold Go.Proofs.YtpobepninifenaaGreat.needC
  split
  · exact h.updL 0 (by omega) _ (fun l => by simp)
  · exact h.updL 2 (by omega) _ (fun l => by simp)
theorem addN_len (n : T3) (l : List T3) : (addN n l).length ≤ l.length + 1 := by unfold addN; split <;> simp
theorem LenLe.scs (t : Tr) (m : Int) : ∀ {l : List T3} {P : List PCl} {N : Nat}, LenLe P N → LenLe (l.foldl (scC t m) P) (N + l.length)
  | [], _, _, h => h
  | x :: r, P, N, h => by
    rw [List.foldl_cons]
    have h1 : LenLe (scC t m P x) (N + 1) := h.updL 1 (by omega) _ (addN_len _)
    have := LenLe.scs t m (l := r) h1
    exact this.mono (by simp; omega)
theorem LenLe.rawC {P : List PCl} {N : Nat} (h : LenLe P N) (t : Tr) (O : List (Qn × Int)) (a : Ans) (ha : a.ins.length ≤ 100000) : LenLe (rawC t O P a) (N + 100001) :=
  (LenLe.scs t a.m ((h.openC a).needC O a)).mono (by omega)
theorem rawC_len (t : Tr) (O : List (Qn × Int)) (P : List PCl) (a : Ans) : (rawC t O P a).length ≤ P.length + 1 := by
  unfold rawC
  rw [sc_fold_len, needC_len]
  obtain ⟨n, h1, h2⟩ := openC_pos P a
  omega
theorem rawOf_take (t : Tr) (O : List (Qn × Int)) (Y : List Ans) (hY : ∀ a ∈ Y, a.ins.length ≤ 100000) : ∀ k, k ≤ Y.length → LenLe (rawOf t O (Y.take k)) (k * 100001) ∧ (rawOf t O (Y.take k)).length ≤ k
  | 0, _ => ⟨fun k hk => by simp [rawOf] at hk, by simp [rawOf]⟩
  | k + 1, h => by
    obtain ⟨h1, h2⟩ := rawOf_take t O Y hY k (by omega)
    have hk : k < Y.length := by omega
    have e : rawOf t O (Y.take (k + 1)) = rawC t O (rawOf t O (Y.take k)) Y[k] := foldl_succ _ _ _ _ hk
    rw [e]
    refine ⟨(h1.rawC t O Y[k] (hY _ (List.getElem_mem hk))).mono (by omega), ?_⟩
    have := rawC_len t O (rawOf t O (Y.take k)) Y[k]
    omega
end Go.Proofs.YtpobepninifenaaGreat

namespace Go.Proofs.YtpobepninifenaaGreat
open Go.RowKit
theorem lt_of_blk' {w : World} {b : Nat} {o : Obj} (h : w.heap[b]? = some o) : b < w.heap.size := (Array.getElem?_eq_some_iff.1 h).1
theorem Sh.O.form1 {α : Type} {s : Sh α} {w : World} {B e : Nat} {v : Value} {L : List α} (h : s.O w B e v L) (hL : 0 < L.length) : ∃ g c, v = .slice (some ⟨g, 0, none⟩) L.length c ∧ B ≤ g ∧ ∃ cs, w.heap[g]? = some (Obj.cells cs e (0, 0)) := by
  rcases h.2 with ⟨rfl, h2⟩ | ⟨g, cap, cur, rfl, hb, hg, _⟩
  · exfalso
    have h3 := Sh.cs_len (s := s) L
    have hp := s.pos
    have : 1 * 1 ≤ L.length * s.sz := Nat.mul_le_mul hL hp
    rw [h2] at h3; simp at h3; omega
  · exact ⟨g, cap, rfl, hb, _, hg⟩
theorem CL.row {w : World} {B : Nat} {vc : Value} {P : List PCl} {V : Nat → Nat → SlT} (h : CL w B vc P V) {k : Nat} (hk : k < P.length) :
    ∃ g c, vc = .slice (some ⟨g, 0, none⟩) P.length c ∧ B ≤ g ∧ g < w.heap.size ∧ w.cell? ⟨g, k * 5, none⟩ = some (.int .i64 P[k].m) ∧ w.cell? ⟨g, k * 5 + 1, none⟩ = some (.int .i64 P[k].ep) ∧
      w.cell? ⟨g, k * 5 + 2, none⟩ = some (slv (V k 0)) ∧ w.cell? ⟨g, k * 5 + 3, none⟩ = some (slv (V k 1)) ∧ w.cell? ⟨g, k * 5 + 4, none⟩ = some (slv (V k 2)) ∧ (∀ o, w.frozen? ⟨g, o, none⟩ = false) := by
  have hkr : k < (rowsC P V).length := by rw [rowsC_len]; exact hk
  obtain ⟨g, c, rfl, hb, cs, hg⟩ := h.c.form1 (by omega)
  obtain ⟨g', o', c', e, he⟩ := h.c.r.elem hkr
  cases e
  rw [rowsC_get P V k hk] at he
  refine ⟨g, c, by rw [rowsC_len], hb, lt_of_blk hg, ?_, ?_, ?_, ?_, ?_, fun o => by simp [World.frozen?, hg]⟩
  · simpa [shC] using he 0 _ rfl
  · simpa [shC] using he 1 _ rfl
  · simpa [shC] using he 2 _ rfl
  · simpa [shC] using he 3 _ rfl
  · simpa [shC] using he 4 _ rfl
/-- What the gathering of claims leaves. -/
def KO (w w' : World) : Prop := w.heap.size ≤ w'.heap.size ∧ ∀ (b : Nat) (cs : Array Value) (e : TypeId) (f : Nat × Nat), w.heap[b]? = some (Obj.cells cs e f) → e ≠ tC → e ≠ tN → w'.heap[b]? = w.heap[b]?
theorem KO.trans {a b c : World} (h : KO a b) (g : KO b c) : KO a c := ⟨Nat.le_trans h.1 g.1, fun x cs e f h1 h2 h3 => by
  have e1 := h.2 x cs e f h1 h2 h3
  exact (g.2 x cs e f (e1.trans h1) h2 h3).trans e1⟩
theorem KO.of {S : List Nat} {w w' : World} (hk : Keeps S w w') (hS : ∀ b ∈ S, ∃ (cs : Array Value) (e : TypeId) (f : Nat × Nat), w.heap[b]? = some (Obj.cells cs e f) ∧ (e = tC ∨ e = tN)) : KO w w' := ⟨hk.size, fun b cs e f h1 h2 h3 => hk.block b (lt_of_blk' h1) (fun hb => by
  obtain ⟨cs', e', f', g1, g2⟩ := hS b hb
  rw [g1] at h1; cases h1
  rcases g2 with g2 | g2
  · exact h2 g2
  · exact h3 g2)⟩
theorem KO.nil {w w' : World} (hk : Keeps [] w w') : KO w w' := KO.of hk (by simp)
theorem KO.ki {w w' : World} (h : KO w w') : KI w w' := fun b cs f hb => (h.2 b cs _ f hb (by decide) (by decide)).trans hb
theorem KO.grwC {w w' : World} {B : Nat} {v v' : Value} {L : List ClV} (hG : Grw w w' v v') (hO : shC.O w B tC v L) : KO w w' := KO.of hG.keepsO (fun b hb => by
  obtain ⟨cs, hc⟩ := hO.tag b (by simpa using hb)
  exact ⟨cs, _, _, hc, .inl rfl⟩)
theorem KO.grwN {w w' : World} {B : Nat} {v v' : Value} {L : List T3} (hG : Grw w w' v v') (hO : shT.O w B tN v L) : KO w w' := KO.of hG.keepsO (fun b hb => by
  obtain ⟨cs, hc⟩ := hO.tag b (by simpa using hb)
  exact ⟨cs, _, _, hc, .inr rfl⟩)
theorem field_lu (w : World) (v0 v1 : Int) (v2 : Nat) (v3 : Int) (v4 v5 : Bool) (v6 : Int) (u : Value) (hu : u.cells.size = 1) : (Instr.field tA (.agg #[.int .i64 v0, .int .i64 v1, .int .u64 v2, .int .i64 v3, .bool v4, .bool v5, .int .i64 v6, u]) 6).run Tryz.prog w = .ok (.int .i64 v6) w := by
  kernel_rfl
theorem LR.lu {w : World} {R : List (Qn × AnV)} {t : Tr} (h : LR w R t.rec') (q : Qn) : ∃ xv : AnV, ((MapS.get q R).map aV).getD (aV .zero) = aV xv ∧ xv.lu = luOf t q := by
  unfold luOf
  rcases h.2 q with ⟨h1, h2⟩ | ⟨x, y, h1, h2, h3⟩
  · rw [h1, h2]; exact ⟨.zero, rfl, rfl⟩
  · rw [h1, h2]; exact ⟨x, rfl, h3.lu⟩
/-- The lists before this one are sorted. -/
def Srt (k j : Nat) (P Q : List PCl) : Prop := Q.length = P.length ∧ ∀ (i : Nat) (h1 : i < Q.length) (h2 : i < P.length), Q[i].m = P[i].m ∧ Q[i].ep = P[i].ep ∧
  ∀ l, l < 3 → (Q[i].at l).Perm (P[i].at l) ∧ (i < k ∨ (i = k ∧ l < j) → (Q[i].at l).Pairwise (fun x y => ¬ tlt y x))
theorem Srt.start (P : List PCl) : Srt 0 0 P P := ⟨rfl, fun i h1 h2 => ⟨rfl, rfl, fun l hl => ⟨List.Perm.refl _, fun h => by omega⟩⟩⟩
theorem Srt.next {k : Nat} {P Q : List PCl} (h : Srt k 3 P Q) : Srt (k + 1) 0 P Q := ⟨h.1, fun i h1 h2 => ⟨(h.2 i h1 h2).1, (h.2 i h1 h2).2.1, fun l hl => ⟨((h.2 i h1 h2).2.2 l hl).1, fun hh => ((h.2 i h1 h2).2.2 l hl).2 (by omega)⟩⟩⟩
theorem Srt.step {k j : Nat} {P Q : List PCl} (h : Srt k j P Q) (hk : k < Q.length) (hj : j < 3) {L : List T3} (hp : L.Perm (Q[k].at j)) (hw : L.Pairwise (fun x y => ¬ tlt y x)) : Srt k (j + 1) P (Q.set k (Q[k].upd j L)) := by
  refine ⟨by rw [List.length_set]; exact h.1, fun i h1 h2 => ?_⟩
  have h3 : i < Q.length := by simpa using h1
  obtain ⟨g1, g2, g3⟩ := h.2 i h3 h2
  rw [List.getElem_set]
  by_cases e : k = i
  · subst e
    simp only [if_true]
    refine ⟨(CL.upd_m _ _ _).1.trans g1, (CL.upd_m _ _ _).2.trans g2, fun l hl => ?_⟩
    rw [CL.at_upd _ _ _ _ hj hl]
    by_cases el : l = j
    · subst el
      rw [if_pos rfl]
      exact ⟨hp.trans (g3 l hl).1, fun _ => hw⟩
    · rw [if_neg el]
      exact ⟨(g3 l hl).1, fun hh => (g3 l hl).2 (by omega)⟩
  · simp only [if_neg e]
    exact ⟨g1, g2, fun l hl => ⟨(g3 l hl).1, fun hh => (g3 l hl).2 (by omega)⟩⟩
theorem cells3s {w : World} {b : Nat} {u : Nat → Value} {t : TypeId} {f : Nat × Nat} (h : w.heap[b]? = some (.cells #[u 0, u 1, u 2] t f)) {j : Nat} (hj : j < 3) : w.cell? ⟨b, j, none⟩ = some (u j) := by
  match j, hj with
  | 0, _ => simp [World.cell?, h]
  | 1, _ => simp [World.cell?, h]
  | 2, _ => simp [World.cell?, h]
end Go.Proofs.YtpobepninifenaaGreat

namespace Go.Proofs.YtpobepninifenaaGreat
open Go.RowKit

def ClaimsP (t : Tr) (Y : List Ans) (P : List PCl) : Prop :=
  P.length = (rawOf t (outsOf Y) Y).length ∧ ∀ (k : Nat) (h1 : k < P.length) (h2 : k < (rawOf t (outsOf Y) Y).length), P[k].m = (rawOf t (outsOf Y) Y)[k].m ∧ P[k].ep = (rawOf t (outsOf Y) Y)[k].ep ∧
    ∀ j, j < 3 → (P[k].at j).Perm ((rawOf t (outsOf Y) Y)[k].at j) ∧ (P[k].at j).Pairwise (fun x y => ¬ tlt y x)
def ClmPost (w : World) (t : Tr) (e : Ending) (w' : World) : Prop :=
  ∃ vc P V Bc Y, e = .returned vc ∧ w.heap.size ≤ Bc ∧ CL w' Bc vc P V ∧ SortedA t Y ∧ ClaimsP t Y P ∧ Keeps [] w w'
theorem SortedA.ok {w : World} {B bt bm : Nat} {vo vh vg : Value} {t : Tr} {Y : List Ans} (h : SortedA t Y) (hT : TrM w B bt bm vo vh vg t) : (∀ a ∈ Y, a.Ok) ∧ Y.length ≤ t.qs.length := by
  constructor
  · intro a ha
    have := h.1.mem_iff.1 ha
    obtain ⟨p, hp, rfl⟩ := List.mem_map.1 this
    exact hT.inv.ro p hp
  · have := h.1.length_eq
    rw [List.length_map] at this
    have h2 := (rec_len t.qs).1
    simp only [Tr.rec'] at this
    omega
theorem map_ki {w w' : World} {bE : Nat} (hk : Keeps [bE] w w') {es : Array _} {c : Nat} (hb : w.heap[bE]? = some (Obj.map es c)) : KI w w' := hk.ki (fun b hb2 cs f e => by
  simp at hb2; subst hb2
  rw [hb] at e; cases e)
set_option maxRecDepth 100000 in
set_option maxHeartbeats 40000000 in
theorem claims_c (w : World) (B bt bm : Nat) (vo vh vg : Value) (t : Tr) (h : TrM w B bt bm vo vh vg t) (hl : t.qs.length ≤ 1000) :
    Calls Tryz.prog 82 #[.pointer (some ⟨bt, 0, none⟩)] w (ClmPost w t) := by
  have hans := answers_c w B bt bm vo vh vg t h (by omega)
  have hmm := @run_makeMap Tryz.prog
  have hlt := h.lt
  replace hans := Lib.hid hans
  replace h := Lib.hid h
  go_enter Tryz.func82, Tryz.ntmps82
  go_wp2_with fail
  refine hans.out.mono ?_
  rintro e w1 ⟨va, X, Y, rfl, hX, hLA, hS, hk1⟩
  obtain ⟨aa, ac, rfl⟩ := hX.form
  obtain ⟨N, hN⟩ : ∃ n, X.length = n := ⟨_, rfl⟩
  have hNY : Y.length = N := by rw [← hLA.1, hN]
  obtain ⟨hYok, hYl⟩ := hS.ok h.out
  rw [hN] at hX ⊢
  have hN1 : N ≤ 1000 := by omega
  have hM := MapS.M.made ktE (vf := zV) w1
  have hkM : Keeps [] w1 (w1.alloc (.map #[] 0)) := (Keeps.refl _ _).alloc _
  have hX2 := hX.keeps hkM
  have hLA2 := hLA.ki hkM.ki0
  have hk2 := hk1.trans hkM
  have hbE := heap_alloc_new w1 (.map #[] 0)
  have hz2 : (w1.alloc (.map #[] 0)).heap.size = w1.heap.size + 1 := by simp
  replace hk1s := hk1.size
  replace hX := Lib.hid hX2
  replace hLA := Lib.hid hLA2
  replace hk2 := Lib.hid hk2
  replace hM := Lib.hid hM
  replace hbE := Lib.hid hbE
  replace hS := Lib.hid hS
  replace hYok := Lib.hid hYok
  replace hN := Lib.hid hN
  replace hNY := Lib.hid hNY
  clear hX2 hLA2 hk1 hkM hans
  go_wp2
  generalize (w1.alloc (.map #[] 0)) = w2 at *
  obtain ⟨bE, hbEe⟩ : ∃ b, w1.heap.size = b := ⟨_, rfl⟩
  rw [hbEe] at hM hbE hz2 hk1s ⊢
  clear hmm hbEe
  go_loopw [28] (fun i wr => ∃ k : Nat, i = .int .i64 k ∧ k ≤ N ∧ Hid (MapS.M ktE zV wr bE ((Y.take k).foldl outsA [])) ∧ Hid (Keeps [bE] w2 wr) ∧ Hid (((Y.take k).foldl outsA []).length ≤ k * 100000)) (fun i _ => N - (intOf i).toNat)
  case atStart => exact ⟨0, rfl, by omega, hM, Lib.hid (Keeps.refl _ _), Lib.hid (by simp)⟩
  case round =>
    obtain ⟨k, rfl, hk, hMr, hkr, hln⟩ := hrel
    by_cases hlt2 : k < N
    --DEV1
    · have hir := map_ki hkr.out hbE.out
      have hXr := hX.out.keepS hkr.out (fun b hb e => by
        simp at hb; subst hb
        obtain ⟨cs, hc⟩ := hX.out.tag _ e
        rw [hbE.out] at hc; cases hc)
      have hLAr := hLA.out.ki hir
      have hkX : k < X.length := by rw [hN.out]; exact hlt2
      have hkY : k < Y.length := by rw [hNY.out]; exact hlt2
      obtain ⟨g, o, c', hv, he⟩ := hXr.r.elem hkX
      rw [hN.out] at hv
      cases hv
      have hxy := hLAr.2 k X[k] Y[k] (List.getElem?_eq_getElem _) (List.getElem?_eq_getElem _)
      have hao := hYok.out Y[k] (List.getElem_mem _)
      have hst : (Y.take (k + 1)).foldl outsA [] = outsA ((Y.take k).foldl outsA []) Y[k] := foldl_succ _ _ _ _ hkY
      obtain ⟨a, hae⟩ : ∃ a, Y[k] = a := ⟨_, rfl⟩
      rw [hae] at hxy hao hst
      obtain ⟨x, hxe⟩ : ∃ x, X[k] = x := ⟨_, rfl⟩
      rw [hxe] at hxy he
      clear hXr hLAr hkX hae hxe hir
      obtain ⟨x0, x1, x2, x3, x4, x5, x6, x7, x8, x9⟩ := x
      have f0 := he 0 _ rfl
      have f1 := he 1 _ rfl
      have f2 := he 2 _ rfl
      have f3 := he 3 _ rfl
      have f4 := he 4 _ rfl
      have f5 := he 5 _ rfl
      have f6 := he 6 _ rfl
      have f7 := he 7 _ rfl
      simp only [shA, AnV.v, Nat.add_zero] at f0 f1 f2 f3 f4 f5 f6 f7
      have hx0 : x0 = a.m := hxy.m
      have hins := hxy.ins
      simp only [AnV.v] at hins
      have hx8 : x8 = a.ins.length := by obtain ⟨_, _, e, _⟩ := hins.r.form; cases e; rfl
      subst hx0
      replace hins := Lib.hid hins
      replace hao := Lib.hid hao
      replace hst := Lib.hid hst
      replace hx8 := Lib.hid hx8
      clear he hxy hkY
      go_wp2
      have hkA : Keeps [bE] wr (wr.alloc (.cells #[.int .i64 a.m, .int .i64 x1, .int .u64 x2, .int .i64 x3, .bool x4, .bool x5, .int .i64 x6, .slice x7 x8 x9] tA)) := (Keeps.refl _ _).alloc _
      have hkA0 : Keeps [] wr (wr.alloc (.cells #[.int .i64 a.m, .int .i64 x1, .int .u64 x2, .int .i64 x3, .bool x4, .bool x5, .int .i64 x6, .slice x7 x8 x9] tA)) := (Keeps.refl _ _).alloc _
      have hbA := heap_alloc_new wr (.cells #[.int .i64 a.m, .int .i64 x1, .int .u64 x2, .int .i64 x3, .bool x4, .bool x5, .int .i64 x6, .slice x7 x8 x9] tA)
      generalize (wr.alloc (.cells #[.int .i64 a.m, .int .i64 x1, .int .u64 x2, .int .i64 x3, .bool x4, .bool x5, .int .i64 x6, .slice x7 x8 x9] tA)) = WA at *
      obtain ⟨XA, hXA⟩ : ∃ b, wr.heap.size = b := ⟨_, rfl⟩
      have hkrA := hkr.out.trans hkA
      have hMA := hMr.out.keeps ktE hkA0
      have hinsA := hins.out.ki hkA0.ki0
      have hbEX : bE < XA := by have := hkr.out.size; omega
      rw [hXA] at hbA ⊢
      clear hXA
      obtain ⟨acc, hacc⟩ : ∃ acc, (Y.take k).foldl outsA [] = acc := ⟨_, rfl⟩
      rw [hacc] at hMA hln hst
      replace hacc := Lib.hid hacc
      replace hkrA := Lib.hid hkrA
      replace hMA := Lib.hid hMA
      replace hinsA := Lib.hid hinsA
      replace hbA := Lib.hid hbA
      have hx8l : x8 ≤ 100000 := by rw [hx8.out]; exact hao.out.len
      clear hkr hMr hins hkA hkA0 f0 f1 f2 f3 f4 f5 f6 f7
      go_loopw [35] (fun i wi => ∃ j : Nat, i = .int .i64 j ∧ j ≤ x8 ∧ Hid (MapS.M ktE zV wi bE ((a.ins.take j).foldl (outA a.m) acc)) ∧ Hid (Keeps [bE] WA wi)) (fun i _ => x8 - (intOf i).toNat)
      case atStart => exact ⟨0, rfl, by omega, hMA, Lib.hid (Keeps.refl _ _)⟩
      case round =>
        obtain ⟨j, rfl, hj, hMi, hki⟩ := hrel
        by_cases hlt3 : j < x8
        · obtain ⟨es, ec, hmap⟩ := hMA.out.isMap
          have hinsi := hinsA.out.ki (map_ki hki.out hmap)
          have hja : j < a.ins.length := by rw [← hx8.out]; exact hlt3
          obtain ⟨g2, o2, c2, hv2, he2⟩ := hinsi.r.elem hja
          rw [← hx8.out] at hv2
          cases hv2
          have hxo := hao.out.ins _ (List.getElem_mem hja)
          have hst2 : (a.ins.take (j + 1)).foldl (outA a.m) acc = outA a.m ((a.ins.take j).foldl (outA a.m) acc) a.ins[j] := foldl_succ _ _ _ _ hja
          obtain ⟨y, hye⟩ : ∃ y, a.ins[j] = y := ⟨_, rfl⟩
          rw [hye] at he2 hxo hst2
          obtain ⟨y0, y1, y2⟩ := y
          have f0 := he2 0 _ rfl
          have f1 := he2 1 _ rfl
          have f2 := he2 2 _ rfl
          simp only [shT, Nat.add_zero] at f0 f1 f2
          have hbi := (hki.out.block XA (lt_of_blk hbA.out) (by simp; omega)).trans hbA.out
          obtain ⟨z0, _, _, _, _, _, _, _, _, zlt⟩ := cells8 hbi
          have hqk : qOk (a.m, y0, y1) := ⟨hao.out.q.1, hxo.1, hxo.2.1⟩
          obtain ⟨aj, haj⟩ : ∃ aj, (a.ins.take j).foldl (outA a.m) acc = aj := ⟨_, rfl⟩
          have hajl : aj.length < maxLen := by
            rw [← haj]
            have h1 := out_fold_len a.m (a.ins.take j) acc
            have h2 := hln.out
            have h3 : (a.ins.take j).length ≤ a.ins.length := by simp; omega
            have h4 := hao.out.len
            have h5 : k * 100000 ≤ 1000 * 100000 := Nat.mul_le_mul_right _ (by omega)
            unfold maxLen; omega
          rw [haj] at hMi hst2
          have hMj := hMi.out.keeps ktE ((Keeps.refl [] wr).alloc (.cells #[.int .i64 y0, .int .u64 y1, .int .i64 y2] tI))
          have hkj : Keeps [bE] WA (wr.alloc (.cells #[.int .i64 y0, .int .u64 y1, .int .i64 y2] tI)) := hki.out.alloc _
          have hlk := MapS.M.look_ok ktE Tryz.underlying207 (zV 0) zeroZ hMj hqk
          obtain ⟨ov, hov⟩ : ∃ ov : Int, ((MapS.get (a.m, y0, y1) aj).map zV).getD (zV 0) = zV ov := by
            cases MapS.get (a.m, y0, y1) aj with
            | none => exact ⟨_, rfl⟩
            | some u => exact ⟨u, rfl⟩
          obtain ⟨ob, hob⟩ : ∃ ob, (MapS.get (a.m, y0, y1) aj).isSome = ob := ⟨_, rfl⟩
          rw [hov, hob] at hlk
          simp only [ktE, qV, zV] at hlk
          clear hov hinsi he2 hbi hmap hye
          cases ob with
          | true =>
            have hsame : outA a.m aj (y0, y1, y2) = aj := if_pos hob
            rw [hsame] at hst2
            rw [← hst2] at hMj
            replace hst2 := Lib.hid hst2
            replace hMj := Lib.hid hMj
            replace hkj := Lib.hid hkj
            replace hob := Lib.hid hob
            replace haj := Lib.hid haj
            replace hqk := Lib.hid hqk
            clear hsame
            go_wp2
            go_roundw
            case rel => exact ⟨j + 1, rfl, by omega, hMj, hkj⟩
            case measure => simp [intOf]; omega
          | false =>
            have hnew : outA a.m aj (y0, y1, y2) = aj ++ [((a.m, y0, y1), y2)] := if_neg (by simp [hob])
            rw [hnew] at hst2
            have hget : MapS.get (a.m, y0, y1) aj = none := by simpa using hob
            obtain ⟨wk, hrun, hMk, hkk⟩ := MapS.M.putNew ktE Tryz.underlying207 hMj hqk hget hajl y2
            rw [← hst2] at hMk
            have hkw := hkj.trans hkk
            simp only [ktE, qV, zV] at hrun
            replace hst2 := Lib.hid hst2
            replace hMk := Lib.hid hMk
            replace hkw := Lib.hid hkw
            replace hob := Lib.hid hob
            replace haj := Lib.hid haj
            replace hqk := Lib.hid hqk
            clear hnew hMj hkj hkk hget
            go_wp2
            go_roundw
            case rel => exact ⟨j + 1, rfl, by omega, hMk, hkw⟩
            case measure => simp [intOf]; omega
        · have hjx : j = x8 := by omega
          subst hjx
          have hfin : (a.ins.take j).foldl (outA a.m) acc = outsA acc a := by rw [hx8.out, foldl_all]; rfl
          rw [hfin, ← hst.out] at hMi
          have hkf := hkrA.out.trans hki.out
          have hlf : ((Y.take (k + 1)).foldl outsA []).length ≤ (k + 1) * 100000 := by
            rw [hst.out]
            have h1 := out_fold_len a.m a.ins acc
            have h2 := hln.out
            have h4 := hao.out.len
            unfold outsA
            rw [Nat.add_mul]
            omega
          replace hkf := Lib.hid hkf
          replace hlf := Lib.hid hlf
          clear hfin
          go_wp2
          go_roundw
          case rel => exact ⟨k + 1, rfl, by omega, hMi, hkf, hlf⟩
          case measure => simp [intOf]; omega
    --DEV2
    · have hkN : N = k := by omega
      subst hkN
      have hO0 : (Y.take N).foldl outsA [] = outsOf Y := by rw [← hNY.out, foldl_all]; rfl
      rw [hO0] at hMr
      obtain ⟨O, hOe⟩ : ∃ O, outsOf Y = O := ⟨_, rfl⟩
      rw [hOe] at hMr
      have hir := map_ki hkr.out hbE.out
      have hX3 := hX.out.keepS hkr.out (fun b hb e => by
        simp at hb; subst hb
        obtain ⟨cs, hc⟩ := hX.out.tag _ e
        rw [hbE.out] at hc; cases hc)
      have hLA3 := hLA.out.ki hir
      have hk03 : Keeps [] w wr := hk2.out.fresh hkr.out (fun b hb => by simp at hb; subst hb; exact .inr hk1s)
      have hT3 := h.out.keeps hk03
      have hbE3 := MapS.M.lt ktE hMr.out
      have hlt3 := hT3.lt
      have hwW := hk03.size
      replace hX := Lib.hid hX3
      replace hLA := Lib.hid hLA3
      replace hk03 := Lib.hid hk03
      replace hT3 := Lib.hid hT3
      replace hOe := Lib.hid hOe
      clear hX3 hLA3 hir hO0 hln hM hkr hk2 hbE hz2 hk1s h
      go_wp2
      generalize wr = W3 at *
      go_loopw [67, 11] (fun i cv wr => ∃ k : Nat, i = .int .i64 k ∧ k ≤ N ∧ ∃ V, Hid (CL wr W3.heap.size cv (rawOf t O (Y.take k)) V) ∧ Hid (Keeps [] W3 wr)) (fun i _ _ => N - (intOf i).toNat)
      case atStart => exact ⟨0, rfl, by omega, _, Lib.hid (CL.nil _ _ (fun _ _ => nilT)), Lib.hid (Keeps.refl _ _)⟩
      case round =>
        obtain ⟨k, rfl, hk, V, hC, hkr⟩ := hrel
        by_cases hlt2 : k < N
        --DEV1
        · have hXr := hX.out.keeps hkr.out
          have hLAr := hLA.out.ki hkr.out.ki0
          have hkX : k < X.length := by rw [hN.out]; exact hlt2
          have hkY : k < Y.length := by rw [hNY.out]; exact hlt2
          obtain ⟨g, o, c', hv, he⟩ := hXr.r.elem hkX
          rw [hN.out] at hv
          cases hv
          have hxy := hLAr.2 k X[k] Y[k] (List.getElem?_eq_getElem _) (List.getElem?_eq_getElem _)
          have hao := hYok.out Y[k] (List.getElem_mem _)
          have hst : rawOf t O (Y.take (k + 1)) = rawC t O (rawOf t O (Y.take k)) Y[k] := foldl_succ _ _ _ _ hkY
          obtain ⟨hbd, hPl⟩ := rawOf_take t O Y (fun a ha => (hYok.out a ha).len) k (by omega)
          obtain ⟨a, hae⟩ : ∃ a, Y[k] = a := ⟨_, rfl⟩
          rw [hae] at hxy hao hst
          obtain ⟨x, hxe⟩ : ∃ x, X[k] = x := ⟨_, rfl⟩
          rw [hxe] at hxy he
          obtain ⟨P, hP⟩ : ∃ P, rawOf t O (Y.take k) = P := ⟨_, rfl⟩
          rw [hP] at hC hst hbd hPl
          clear hXr hLAr hkX hae hxe
          obtain ⟨x0, x1, x2, x3, x4, x5, x6, x7, x8, x9⟩ := x
          have f0 := he 0 _ rfl
          have f1 := he 1 _ rfl
          have f2 := he 2 _ rfl
          have f3 := he 3 _ rfl
          have f4 := he 4 _ rfl
          have f5 := he 5 _ rfl
          have f6 := he 6 _ rfl
          have f7 := he 7 _ rfl
          simp only [shA, AnV.v, Nat.add_zero] at f0 f1 f2 f3 f4 f5 f6 f7
          have hx0 : x0 = a.m := hxy.m
          have hx1 : x1 = a.ow := hxy.ow
          have hx2 : x2 = a.n := hxy.n
          have hx3 : x3 = a.ep := hxy.ep
          have hins := hxy.ins
          simp only [AnV.v] at hins
          have hx8 : x8 = a.ins.length := by obtain ⟨_, _, e, _⟩ := hins.r.form; cases e; rfl
          subst hx0 hx1 hx2 hx3
          obtain ⟨ca, cc, rfl⟩ := hC.out.c.form
          obtain ⟨Pl, hPle⟩ : ∃ n, P.length = n := ⟨_, rfl⟩
          rw [rowsC_len, hPle] at hC ⊢
          have hPl2 : Pl ≤ 1000 := by omega
          replace hins := Lib.hid hins
          replace hao := Lib.hid hao
          replace hst := Lib.hid hst
          replace hx8 := Lib.hid hx8
          replace hbd := Lib.hid hbd
          replace hP := Lib.hid hP
          replace hPle := Lib.hid hPle
          clear he hxy hkY hPl
          go_wp2
          have hkA0 : Keeps [] wr (wr.alloc (.cells #[.int .i64 a.m, .int .i64 a.ow, .int .u64 a.n, .int .i64 a.ep, .bool x4, .bool x5, .int .i64 x6, .slice x7 x8 x9] tA)) := (Keeps.refl _ _).alloc _
          have hbA := heap_alloc_new wr (.cells #[.int .i64 a.m, .int .i64 a.ow, .int .u64 a.n, .int .i64 a.ep, .bool x4, .bool x5, .int .i64 x6, .slice x7 x8 x9] tA)
          generalize (wr.alloc (.cells #[.int .i64 a.m, .int .i64 a.ow, .int .u64 a.n, .int .i64 a.ep, .bool x4, .bool x5, .int .i64 x6, .slice x7 x8 x9] tA)) = WA at *
          have hW3r := hkr.out.size
          obtain ⟨XA, hXA⟩ : ∃ b, wr.heap.size = b := ⟨_, rfl⟩
          have hkA := hkr.out.trans hkA0
          have hCA := hC.out.keeps hkA0
          have hinsA := hins.out.ki hkA0.ki0
          rw [hXA] at hbA hW3r ⊢
          have hCB : B ≤ 0 ∨ True := .inr trivial
          clear hXA hCB
          replace hkA := Lib.hid hkA
          replace hCA := Lib.hid hCA
          replace hinsA := Lib.hid hinsA
          replace hbA := Lib.hid hbA
          have hx8l : x8 ≤ 100000 := by rw [hx8.out]; exact hao.out.len
          clear hkr hC hins hkA0 f0 f1 f2 f3 f4 f5 f6 f7
          go_cut [85] from 68 to 184 (fun b wx => b = .bool (newC P a) ∧ wx = WA.drew)
          case first =>
            obtain ⟨y0, y1, y2, y3, y4, y5, y6, y7, yf, ylt⟩ := cells8 hbA.out
            cases Pl with
            | zero =>
              have hnb := newC_nil hPle.out a
              replace hnb := Lib.hid hnb
              refine Free.wp_region_chain (fun i => false) (fun i => true) (fun _ _ => False) (by kernel_rfl) (by kernel_rfl) (by kernel_rfl) ?_
              (repeat (first | (apply Free.cw_pureW rfl rfl; (intro w'; go_simp <;> exact rfl); go_frame) | (apply Free.cw_steadyW rfl rfl rfl; (intro w' hS; have q0 := Free.sx_cell hS y0 (fun _ _ hT => hT); go_simp <;> exact rfl); go_frame) | (refine Free.cw_skip rfl ?_; go_frame)))
              refine Free.cw_nil ?_
              go_wp2
              go_meet
              case rel => exact ⟨by rw [hnb.out], rfl⟩
            | succ n =>
              have hnb := newC_at hPle.out a
              have hwn : IntKind.i64.wrap (n : Int) = (n : Int) := IntWalk.i64_in _ (by omega)
              have hnn : (n : Int) < (n : Int) + 1 := by omega
              obtain ⟨gc, cc', ev, hgB, hgl, m0, m1, m2, m3, m4, mf⟩ := hCA.out.row (k := n) (by rw [hPle.out]; omega)
              rw [hPle.out] at ev
              cases ev
              replace hnb := Lib.hid hnb
              refine Free.wp_region_chain (fun i => false) (fun i => true) (fun _ _ => False) (by kernel_rfl) (by kernel_rfl) (by kernel_rfl) ?_
              (repeat (first | (apply Free.cw_pureW rfl rfl; (intro w'; go_simp <;> exact rfl); go_frame) | (apply Free.cw_steadyW rfl rfl rfl; (intro w' hS; have q0 := Free.sx_cell hS y0 (fun _ _ hT => hT); have q1 := Free.sx_cell hS m0 (fun _ _ hT => hT); go_simp <;> exact rfl); go_frame) | (refine Free.cw_skip rfl ?_; go_frame)))
              refine Free.cw_nil ?_
              go_wp2
              go_meet
              case rel =>
                have hz : ((n : Int) + 1 == 0) = false := by simp; omega
                exact ⟨by rw [hnb.out, hz, Bool.false_or], rfl⟩
          case rest =>
            obtain ⟨rfl, rfl⟩ := hcut
            have hCD := hCA.out.keeps ((Keeps.refl [] WA).drew)
            have hkD : Keeps [] WA WA.drew := (Keeps.refl [] WA).drew
            have hbD := (hkD.block XA (lt_of_blk hbA.out) (by simp)).trans hbA.out
            have hWl : W3.heap.size ≤ WA.drew.heap.size := (hkA.out.trans hkD).size
            generalize WA.drew = WD at *
            replace hCD := Lib.hid hCD
            replace hkD := Lib.hid hkD
            replace hbD := Lib.hid hbD
            clear hCA
            go_upto_if 85 with fail
            go_cut [11] from 68 to 184 (fun cv wx => ∃ V1, Hid (CL wx W3.heap.size cv (openC P a) V1) ∧ Hid (Keeps [] W3 wx) ∧ Hid (KO WD wx))
            case first =>
              obtain ⟨nb, hnb⟩ : ∃ b, newC P a = b := ⟨_, rfl⟩
              rw [hnb]
              obtain ⟨y0, y1, y2, y3, y4, y5, y6, y7, yf, ylt⟩ := cells8 hbD.out
              cases nb with
              | true =>
                have hopen := openC_new hnb
                have hk1 := (Keeps.refl [] WD).alloc (.cells #[.int .i64 a.m, .int .i64 a.ep, .slice none 0 0, .slice none 0 0, .slice none 0 0] tC)
                have hmade := Sh.O.one shC WD (⟨a.m, a.ep, nilT, nilT, nilT⟩ : ClV) #[.int .i64 a.m, .int .i64 a.ep, .slice none 0 0, .slice none 0 0, .slice none 0 0] tC 0 rfl (by omega)
                have hC1 := hCD.out.keeps hk1
                replace hopen := Lib.hid hopen
                replace hk1 := Lib.hid hk1
                replace hmade := Lib.hid hmade
                replace hC1 := Lib.hid hC1
                replace hnb := Lib.hid hnb
                go_wp2_with (at_builtin; go_loud (refine Sh.wpl_app shC W3.heap.size infoC rfl Tryz.underlying68 (.slice ca Pl cc) (.slice (some ⟨WD.heap.size, 0, none⟩) 1 1) (rowsC P V) [(⟨a.m, a.ep, nilT, nilT, nilT⟩ : ClV)] rfl _ _ rfl rfl rfl hC1.out.c hmade.out.r (by rw [rowsC_len, hPle.out]; simp; omega) (by simp; omega) ?_; intro v5 w5 hO5 hG5; have hC5 := hC1.out.push a.m a.ep hG5 hO5; have hk5 := Grw.keeps ((hkA.out.trans hkD.out).trans hk1.out) hG5 (fun b hb => hC1.out.c.ge b hb); have hko := (KO.nil hk1.out).trans (KO.grwC hG5 hC1.out.c); rw [← hopen.out] at hC5; replace hC5 := Lib.hid hC5; replace hk5 := Lib.hid hk5; replace hko := Lib.hid hko; clear hG5 hO5))
                go_wp2
                go_meet
                case rel => exact ⟨_, hC5, hk5, hko⟩
              | false =>
                have hopen := openC_old hnb
                go_wp2
                go_meet
                case rel => exact ⟨V, by rw [hopen]; exact hCD, Lib.hid (hkA.out.trans hkD.out), Lib.hid (KO.nil (Keeps.refl _ _))⟩
            case rest =>
              obtain ⟨V1, hC1, hk1, hko1⟩ := hcut
              obtain ⟨n, hn1, hnP⟩ := openC_pos P a
              have hPl3 : n ≤ 1000 := by rw [hPle.out] at hnP; omega
              obtain ⟨gc, cc1, ev, hgB, hgl, m0, m1, m2, m3, m4, mf⟩ := hC1.out.row (k := n) (by omega)
              rw [hn1] at ev
              subst ev
              have hbC := (hko1.out.2 XA _ _ _ hbD.out (by decide) (by decide)).trans hbD.out
              have hinsC := hinsA.out.ki (hkD.out.ki0.trans hko1.out.ki)
              have hMC := hMr.out.keeps ktE hk1.out
              obtain ⟨y0, y1, y2, y3, y4, y5, y6, y7, yf, ylt⟩ := cells8 hbC
              have hqk : qOk (a.ow, a.m, a.n) := ⟨hao.out.q.2.1, hao.out.q.1, hao.out.q.2.2⟩
              have hlk := MapS.M.look_ok ktE Tryz.underlying207 (zV 0) zeroZ hMC hqk
              have hXg : XA ≠ gc := fun e => by
                subst e
                obtain ⟨cs, hc⟩ := hC1.out.c.tag XA (by simp [Value.ownBlock])
                exact tag_ne hbC hc (by decide) rfl
              have hwn : IntKind.i64.wrap (n : Int) = (n : Int) := IntWalk.i64_in _ (by omega)
              obtain ⟨go, hgo⟩ : ∃ go, MapS.get (a.ow, a.m, a.n) O = go := ⟨_, rfl⟩
              rw [hgo] at hlk
              obtain ⟨ov, hov⟩ : ∃ ov : Int, (go.map zV).getD (zV 0) = zV ov ∧ (∀ u, go = some u → u = ov) := by
                cases go with
                | none => exact ⟨_, rfl, fun u h => by cases h⟩
                | some u => exact ⟨u, rfl, fun v h => by cases h; rfl⟩
              obtain ⟨ob, hob⟩ : ∃ ob, go.isSome = ob := ⟨_, rfl⟩
              rw [hov.1, hob] at hlk
              simp only [ktE, qV, zV] at hlk
              have hW3c := hk1.out.size
              replace hov := Lib.hid hov
              replace hgo := Lib.hid hgo
              replace hob := Lib.hid hob
              replace hqk := Lib.hid hqk
              replace hbC := Lib.hid hbC
              replace hinsC := Lib.hid hinsC
              replace hn1 := Lib.hid hn1
              clear hMC hbA hinsA hCD hbD hkD hWl hkA hko1
              go_upto_if 111 with fail
              replace hn1 := hn1.out
              go_cut [] from 68 to 184 (fun wx => ∃ V2, Hid (CL wx W3.heap.size (.slice (some ⟨gc, 0, none⟩) (n + 1) cc1) (needC O (openC P a) a) V2) ∧ Hid (Keeps [] W3 wx) ∧ Hid (KO wc wx))
              case first =>
                cases ob with
                | true =>
                  have hget : MapS.get (a.ow, a.m, a.n) O = some ov := by
                    obtain ⟨u, hu⟩ := Option.isSome_iff_exists.1 hob.out
                    rw [hgo.out, hu, hov.out.2 u hu]
                  obtain ⟨⟨sa, sn, sc⟩, hv0⟩ : ∃ x, V1 n 0 = x := ⟨_, rfl⟩
                  have hOn := hC1.out.o n 0 (by omega) (by omega)
                  have hng := fun b (e : (slv (V1 n 0)).ownBlock = some b) => hC1.out.ne (by omega) (by omega) e
                  have hll := (hbd.out.openC a) n (by omega) 0 (by omega)
                  rw [hv0] at hOn hng m2
                  simp only [slv] at hOn hng m2
                  have hne1 : ∀ b, (Value.slice sa sn sc).ownBlock = some b → b ≠ gc := fun b e e2 => hng b e (by simp [Value.ownBlock, e2])
                  have hne2 : ∀ b, (Value.slice sa sn sc).ownBlock = some b → b ≠ XA := fun b e e2 => by
                    subst e2
                    obtain ⟨cs, hc⟩ := hOn.tag _ e
                    exact tag_ne hc hbC.out (by decide) rfl
                  have hneed : (openC P a).set n ((openC P a)[n].upd 0 ((openC P a)[n].at 0 ++ [(a.ow, a.n, ov)])) = needC O (openC P a) a := by
                    unfold needC
                    rw [hget]
                    exact (updL_at hn1 0 (fun l => l ++ [(a.ow, a.n, ov)])).symm
                  replace hne1 := Lib.hid hne1
                  replace hne2 := Lib.hid hne2
                  replace hOn := Lib.hid hOn
                  replace hll := Lib.hid hll
                  replace hneed := Lib.hid hneed
                  clear hng
                  go_wp2
                  refine Free.wp_region_chain (fun i => i == 11 || i == 12 || i == 15) (fun i => true) (fun j b => (j = 12 ∧ (Value.slice sa sn sc).ownBlock = some b) ∨ (j = 15 ∧ b = gc)) (by kernel_rfl) (by kernel_rfl) (by kernel_rfl) ?_
                  (repeat (first | (apply Free.cw_pure rfl rfl; (intro w'; go_simp <;> exact rfl); go_frame) | (apply Free.cw_steady rfl rfl rfl; (intro w' hS; have q0 := Free.sx_cell hS m2 (fun j hp hT => Or.elim hT (fun h => hne1.out _ h.2 rfl) (fun h => by obtain ⟨rfl, _⟩ := h; exact absurd hp (by decide +kernel))); have q1 := Free.sx_cell hS y1 (fun j hp hT => Or.elim hT (fun h => hne2.out _ h.2 rfl) (fun h => hXg h.2)); have q2 := Free.sx_cell hS y2 (fun j hp hT => Or.elim hT (fun h => hne2.out _ h.2 rfl) (fun h => hXg h.2)); go_simp <;> exact rfl); go_frame) | (refine Free.cw_skip rfl ?_; go_frame)))
                  refine Free.cw_loud rfl rfl (fun K hK => ?_)
                  go_wp2
                  refine hK _ _ rfl (Free.KeepsP.alloc _ _ _) ?_
                  clear hK K
                  (repeat (apply Free.cw_pure rfl rfl; (intro w'; go_simp <;> exact rfl); go_frame))
                  refine Free.cw_loud rfl rfl (fun K hK => ?_)
                  have hkE : Keeps [] wc ((wc.alloc (.cells #[.int .i64 a.ow, .int .u64 a.n, .int .i64 ov] tN)).drew) := ((Keeps.refl _ _).alloc _).drew
                  have hmade := (Sh.O.one shT wc (a.ow, a.n, ov) #[.int .i64 a.ow, .int .u64 a.n, .int .i64 ov] tN 0 rfl (by omega)).keeps ((Keeps.refl [] _).drew)
                  have hOE := hOn.out.keeps hkE
                  have hCE := hC1.out.keeps hkE
                  have hlE := hkE.size
                  refine Sh.wp_app shT W3.heap.size infoN rfl Tryz.underlying85 (.slice sa sn sc) (.slice (some ⟨wc.heap.size, 0, none⟩) 1 1) ((openC P a)[n].at 0) [(a.ow, a.n, ov)] _ _ rfl rfl rfl hOE hmade.r (by have := hll.out; simp only [List.length_cons, List.length_nil]; omega) (Nat.le_trans hk1.out.size hlE) ?_
                  intro v5 w5 hO5 hG5
                  obtain ⟨a5, c5, rfl⟩ := hO5.form
                  obtain ⟨N5, hN5⟩ : ∃ q, ((openC P a)[n].at 0 ++ [(a.ow, a.n, ov)]).length = q := ⟨_, rfl⟩
                  rw [hN5] at hO5 hG5 ⊢
                  refine hK _ _ rfl (Free.KeepsP.of hG5.keepsO (fun b hb => .inl ⟨rfl, by simpa using hb⟩)) ?_
                  clear hK K
                  have hC6 := hCE.app (k := n) (j := 0) (by omega) (by omega) (v' := (a5, N5, c5)) (by rw [hv0]; exact hG5) hO5
                  rw [hneed.out] at hC6
                  have hng5 : gc ∉ (Value.slice sa sn sc).ownBlock.toList := fun hm => hne1.out gc (by simpa using hm) rfl
                  have hgl5 : gc < ((wc.alloc (.cells #[.int .i64 a.ow, .int .u64 a.n, .int .i64 ov] tN)).drew).heap.size := Nat.lt_of_lt_of_le hgl hlE
                  have m5 := (hG5.keepsO.cell gc (n * 5 + 2) hgl5 hng5).trans (hkE.val m2)
                  have f5 := (hG5.keepsO.frozen gc (n * 5 + 2) hgl5 hng5).trans ((hkE.frozen gc (n * 5 + 2) hgl (by simp)).trans (mf _))
                  have hkS : Keeps [gc] w5 (w5.setCell ⟨gc, n * 5 + (2 + 0), none⟩ (.slice a5 N5 c5)) := (Keeps.refl _ _).setCell (.inr (by simp)) _
                  have hk6 : Keeps [] W3 (w5.setCell ⟨gc, n * 5 + (2 + 0), none⟩ (.slice a5 N5 c5)) := (Grw.keeps (hk1.out.trans hkE) hG5 (fun b hb => hOE.ge b hb)).fresh hkS (fun b hb => by simp at hb; subst hb; exact .inr hgB)
                  have hko6 : KO wc (w5.setCell ⟨gc, n * 5 + (2 + 0), none⟩ (.slice a5 N5 c5)) := ((KO.nil hkE).trans (KO.grwN hG5 hOE)).trans (KO.of hkS (fun b hb => by
                    simp at hb; subst hb
                    obtain ⟨cs, hc⟩ := hCE.c.tag b (by simp [Value.ownBlock])
                    exact ⟨cs, _, _, (hG5.keepsO.block b hgl5 hng5).trans hc, .inl rfl⟩))
                  have hgl6 := lt_of_cell m5
                  replace hC6 := Lib.hid hC6
                  replace hk6 := Lib.hid hk6
                  replace hko6 := Lib.hid hko6
                  replace hkS := Lib.hid hkS
                  clear hO5 hG5 hmade hOE hCE hkE hlE hng5 hgl5
                  (repeat (apply Free.cw_pure rfl rfl; (intro w'; go_simp <;> exact rfl); go_frame))
                  refine Free.cw_loud rfl rfl (fun K hK => ?_)
                  go_wp2
                  refine hK _ _ rfl (Free.KeepsP.of hkS.out (fun b hb => .inr ⟨trivial, by simpa using hb⟩)) ?_
                  clear hK K
                  refine Free.cw_nil ?_
                  go_wp2
                  go_meet
                  case rel => exact ⟨_, hC6, hk6, hko6⟩
                | false =>
                  have hget : MapS.get (a.ow, a.m, a.n) O = none := by
                    rw [hgo.out]; simpa using hob.out
                  obtain ⟨⟨sa, sn, sc⟩, hv0⟩ : ∃ x, V1 n 2 = x := ⟨_, rfl⟩
                  have hOn := hC1.out.o n 2 (by omega) (by omega)
                  have hng := fun b (e : (slv (V1 n 2)).ownBlock = some b) => hC1.out.ne (by omega) (by omega) e
                  have hll := (hbd.out.openC a) n (by omega) 2 (by omega)
                  rw [hv0] at hOn hng m4
                  simp only [slv] at hOn hng m4
                  have hne1 : ∀ b, (Value.slice sa sn sc).ownBlock = some b → b ≠ gc := fun b e e2 => hng b e (by simp [Value.ownBlock, e2])
                  have hne2 : ∀ b, (Value.slice sa sn sc).ownBlock = some b → b ≠ XA := fun b e e2 => by
                    subst e2
                    obtain ⟨cs, hc⟩ := hOn.tag _ e
                    exact tag_ne hc hbC.out (by decide) rfl
                  have hneed : (openC P a).set n ((openC P a)[n].upd 2 ((openC P a)[n].at 2 ++ [(a.ow, a.n, 0)])) = needC O (openC P a) a := by
                    unfold needC
                    rw [hget]
                    exact (updL_at hn1 2 (fun l => l ++ [(a.ow, a.n, 0)])).symm
                  replace hne1 := Lib.hid hne1
                  replace hne2 := Lib.hid hne2
                  replace hOn := Lib.hid hOn
                  replace hll := Lib.hid hll
                  replace hneed := Lib.hid hneed
                  clear hng
                  go_wp2
                  refine Free.wp_region_chain (fun i => i == 10 || i == 11 || i == 14) (fun i => true) (fun j b => (j = 11 ∧ (Value.slice sa sn sc).ownBlock = some b) ∨ (j = 14 ∧ b = gc)) (by kernel_rfl) (by kernel_rfl) (by kernel_rfl) ?_
                  (repeat (first | (apply Free.cw_pure rfl rfl; (intro w'; go_simp <;> exact rfl); go_frame) | (apply Free.cw_steady rfl rfl rfl; (intro w' hS; have q0 := Free.sx_cell hS m4 (fun j hp hT => Or.elim hT (fun h => hne1.out _ h.2 rfl) (fun h => by obtain ⟨rfl, _⟩ := h; exact absurd hp (by decide +kernel))); have q1 := Free.sx_cell hS y1 (fun j hp hT => Or.elim hT (fun h => hne2.out _ h.2 rfl) (fun h => hXg h.2)); have q2 := Free.sx_cell hS y2 (fun j hp hT => Or.elim hT (fun h => hne2.out _ h.2 rfl) (fun h => hXg h.2)); go_simp <;> exact rfl); go_frame) | (refine Free.cw_skip rfl ?_; go_frame)))
                  refine Free.cw_loud rfl rfl (fun K hK => ?_)
                  go_wp2
                  refine hK _ _ rfl (Free.KeepsP.alloc _ _ _) ?_
                  clear hK K
                  (repeat (apply Free.cw_pure rfl rfl; (intro w'; go_simp <;> exact rfl); go_frame))
                  refine Free.cw_loud rfl rfl (fun K hK => ?_)
                  have hkE : Keeps [] wc ((wc.alloc (.cells #[.int .i64 a.ow, .int .u64 a.n, .int .i64 0] tN)).drew) := ((Keeps.refl _ _).alloc _).drew
                  have hmade := (Sh.O.one shT wc (a.ow, a.n, 0) #[.int .i64 a.ow, .int .u64 a.n, .int .i64 0] tN 0 rfl (by omega)).keeps ((Keeps.refl [] _).drew)
                  have hOE := hOn.out.keeps hkE
                  have hCE := hC1.out.keeps hkE
                  have hlE := hkE.size
                  refine Sh.wp_app shT W3.heap.size infoN rfl Tryz.underlying85 (.slice sa sn sc) (.slice (some ⟨wc.heap.size, 0, none⟩) 1 1) ((openC P a)[n].at 2) [(a.ow, a.n, 0)] _ _ rfl rfl rfl hOE hmade.r (by have := hll.out; simp only [List.length_cons, List.length_nil]; omega) (Nat.le_trans hk1.out.size hlE) ?_
                  intro v5 w5 hO5 hG5
                  obtain ⟨a5, c5, rfl⟩ := hO5.form
                  obtain ⟨N5, hN5⟩ : ∃ q, ((openC P a)[n].at 2 ++ [(a.ow, a.n, 0)]).length = q := ⟨_, rfl⟩
                  rw [hN5] at hO5 hG5 ⊢
                  refine hK _ _ rfl (Free.KeepsP.of hG5.keepsO (fun b hb => .inl ⟨rfl, by simpa using hb⟩)) ?_
                  clear hK K
                  have hC6 := hCE.app (k := n) (j := 2) (by omega) (by omega) (v' := (a5, N5, c5)) (by rw [hv0]; exact hG5) hO5
                  rw [hneed.out] at hC6
                  have hng5 : gc ∉ (Value.slice sa sn sc).ownBlock.toList := fun hm => hne1.out gc (by simpa using hm) rfl
                  have hgl5 : gc < ((wc.alloc (.cells #[.int .i64 a.ow, .int .u64 a.n, .int .i64 0] tN)).drew).heap.size := Nat.lt_of_lt_of_le hgl hlE
                  have m5 := (hG5.keepsO.cell gc (n * 5 + 4) hgl5 hng5).trans (hkE.val m4)
                  have f5 := (hG5.keepsO.frozen gc (n * 5 + 4) hgl5 hng5).trans ((hkE.frozen gc (n * 5 + 4) hgl (by simp)).trans (mf _))
                  have hkS : Keeps [gc] w5 (w5.setCell ⟨gc, n * 5 + (2 + 2), none⟩ (.slice a5 N5 c5)) := (Keeps.refl _ _).setCell (.inr (by simp)) _
                  have hk6 : Keeps [] W3 (w5.setCell ⟨gc, n * 5 + (2 + 2), none⟩ (.slice a5 N5 c5)) := (Grw.keeps (hk1.out.trans hkE) hG5 (fun b hb => hOE.ge b hb)).fresh hkS (fun b hb => by simp at hb; subst hb; exact .inr hgB)
                  have hko6 : KO wc (w5.setCell ⟨gc, n * 5 + (2 + 2), none⟩ (.slice a5 N5 c5)) := ((KO.nil hkE).trans (KO.grwN hG5 hOE)).trans (KO.of hkS (fun b hb => by
                    simp at hb; subst hb
                    obtain ⟨cs, hc⟩ := hCE.c.tag b (by simp [Value.ownBlock])
                    exact ⟨cs, _, _, (hG5.keepsO.block b hgl5 hng5).trans hc, .inl rfl⟩))
                  have hgl6 := lt_of_cell m5
                  replace hC6 := Lib.hid hC6
                  replace hk6 := Lib.hid hk6
                  replace hko6 := Lib.hid hko6
                  replace hkS := Lib.hid hkS
                  clear hO5 hG5 hmade hOE hCE hkE hlE hng5 hgl5
                  (repeat (apply Free.cw_pure rfl rfl; (intro w'; go_simp <;> exact rfl); go_frame))
                  refine Free.cw_loud rfl rfl (fun K hK => ?_)
                  go_wp2
                  refine hK _ _ rfl (Free.KeepsP.of hkS.out (fun b hb => .inr ⟨trivial, by simpa using hb⟩)) ?_
                  clear hK K
                  refine Free.cw_nil ?_
                  go_wp2
                  go_meet
                  case rel => exact ⟨_, hC6, hk6, hko6⟩
              case rest =>
                obtain ⟨V2, hC2, hk2c, hko2⟩ := hcut
                have hbC2 := (hko2.out.2 XA _ _ _ hbC.out (by decide) (by decide)).trans hbC.out
                have hinsC2 := hinsC.out.ki hko2.out.ki
                obtain ⟨P2, hP2⟩ : ∃ P2, needC O (openC P a) a = P2 := ⟨_, rfl⟩
                have hbd2 : LenLe P2 (k * 100001 + 1) := by rw [← hP2]; exact (hbd.out.openC a).needC O a
                have hn2 : P2.length = n + 1 := by rw [← hP2, needC_len]; exact hn1
                have hst2 : rawOf t O (Y.take (k + 1)) = a.ins.foldl (scC t a.m) P2 := by rw [hst.out, ← hP2]; rfl
                rw [hP2] at hC2
                obtain ⟨y0, y1, y2, y3, y4, y5, y6, y7, yf, ylt⟩ := cells8 hbC2
                obtain ⟨R, hR, hRL⟩ := hT3.out.mp
                have c7 := hT3.out.cells.2.2.2.2.2.2.2.1
                replace hbC2 := Lib.hid hbC2
                replace hinsC2 := Lib.hid hinsC2
                replace hbd2 := Lib.hid hbd2
                replace hn2 := Lib.hid hn2
                replace hst2 := Lib.hid hst2
                replace hR := Lib.hid hR
                replace hRL := Lib.hid hRL
                replace c7 := Lib.hid c7
                clear hbC hinsC hko2 hP2 hC1 m0 m1 m2 m3 m4 mf hlk hXg hk1 hn1 hW3c hst hgl
                go_wp2
                have hW3c := hk2c.out.size
                go_loopw [144] (fun i wl => ∃ j : Nat, i = .int .i64 j ∧ j ≤ x8 ∧ ∃ V3, Hid (CL wl W3.heap.size (.slice (some ⟨gc, 0, none⟩) (n + 1) cc1) ((a.ins.take j).foldl (scC t a.m) P2) V3) ∧ Hid (Keeps [] W3 wl) ∧ Hid (KO wc wl)) (fun i _ => x8 - (intOf i).toNat)
                case atStart => exact ⟨0, rfl, by omega, V2, hC2, hk2c, Lib.hid (KO.nil (Keeps.refl _ _))⟩
                case round =>
                  obtain ⟨j, rfl, hj, V3, hC3, hk3, hko3⟩ := hrel
                  by_cases hlt3 : j < x8
                  · have hja : j < a.ins.length := by rw [← hx8.out]; exact hlt3
                    obtain ⟨g2, o2, c2, hv2, he2⟩ := (hinsC2.out.ki hko3.out.ki).r.elem hja
                    rw [← hx8.out] at hv2
                    cases hv2
                    have hxo := hao.out.ins _ (List.getElem_mem hja)
                    have hst3 : (a.ins.take (j + 1)).foldl (scC t a.m) P2 = scC t a.m ((a.ins.take j).foldl (scC t a.m) P2) a.ins[j] := foldl_succ _ _ _ _ hja
                    have hbd3 : LenLe ((a.ins.take j).foldl (scC t a.m) P2) (k * 100001 + 1 + (a.ins.take j).length) := LenLe.scs t a.m hbd2.out
                    have hn3 : ((a.ins.take j).foldl (scC t a.m) P2).length = n + 1 := by rw [sc_fold_len]; exact hn2.out
                    have htl : (a.ins.take j).length = j := by rw [List.length_take]; omega
                    rw [htl] at hbd3
                    obtain ⟨Q, hQ⟩ : ∃ Q, (a.ins.take j).foldl (scC t a.m) P2 = Q := ⟨_, rfl⟩
                    rw [hQ] at hC3 hst3 hbd3 hn3
                    obtain ⟨y, hye⟩ : ∃ y, a.ins[j] = y := ⟨_, rfl⟩
                    rw [hye] at he2 hxo hst3
                    obtain ⟨e0, e1, e2⟩ := y
                    have f0 := he2 0 _ rfl
                    have f1 := he2 1 _ rfl
                    have f2 := he2 2 _ rfl
                    simp only [shT, Nat.add_zero] at f0 f1 f2
                    have hbi := (hko3.out.2 XA _ _ _ hbC2.out (by decide) (by decide)).trans hbC2.out
                    have hqk : qOk (e0, a.m, e1) := ⟨hxo.1, hao.out.q.1, hxo.2.1⟩
                    replace hst3 := Lib.hid hst3
                    replace hbd3 := Lib.hid hbd3
                    replace hn3 := Lib.hid hn3
                    replace hbi := Lib.hid hbi
                    replace hqk := Lib.hid hqk
                    replace hja := Lib.hid hja
                    clear he2 hye hQ htl
                    go_wp2
                    have hkF : Keeps [] wr (wr.alloc (.cells #[.int .i64 e0, .int .u64 e1, .int .i64 e2] tI)) := (Keeps.refl _ _).alloc _
                    have hbF := heap_alloc_new wr (.cells #[.int .i64 e0, .int .u64 e1, .int .i64 e2] tI)
                    have hzF : (wr.alloc (.cells #[.int .i64 e0, .int .u64 e1, .int .i64 e2] tI)).heap.size = wr.heap.size + 1 := by simp
                    generalize (wr.alloc (.cells #[.int .i64 e0, .int .u64 e1, .int .i64 e2] tI)) = WF at *
                    have hCF := hC3.out.keeps hkF
                    have hk3F := hk3.out.trans hkF
                    have hko3F := hko3.out.trans (KO.nil hkF)
                    have hbiF := (hkF.block XA (lt_of_blk hbi.out) (by simp)).trans hbi.out
                    have hXAw : XA < wr.heap.size := lt_of_blk hbi.out
                    have hWw : W3.heap.size ≤ wr.heap.size := hk3.out.size
                    obtain ⟨XF, hXF⟩ : ∃ b, wr.heap.size = b := ⟨_, rfl⟩
                    rw [hXF] at hbF hzF hXAw hWw ⊢
                    obtain ⟨r0, r1, r2⟩ := cells3t hbF
                    obtain ⟨y0, y1, y2, y3, y4, y5, y6, y7, yf, ylt⟩ := cells8 hbiF
                    have d7 := hk3F.val c7.out
                    have hRF := hR.out.keeps ktQ hk3F
                    have hlook := fun (w' : World) (hb : w'.heap[bm]? = WF.heap[bm]?) => MapS.M.look ktQ (k := (e0, a.m, e1)) Tryz.underlying115 (aV .zero) zeroA (hRF.at' hb) hqk.out
                    obtain ⟨xv, hxv, hlu⟩ := hRL.out.lu (e0, a.m, e1)
                    rw [hxv] at hlook
                    obtain ⟨v0, v1, v2, v3, v4, v5, v6, v7, v8, v9⟩ := xv
                    simp only [ktQ, qV, aV, AnV.v] at hlook
                    simp only at hlu
                    have hfl := fun w' => field_lu w' v0 v1 v2 v3 v4 v5 v6 (.slice v7 v8 v9) rfl
                    have hbtF : bt < WF.heap.size := by omega
                    have hbmF : bm < WF.heap.size := by omega
                    replace hCF := Lib.hid hCF
                    replace hk3F := Lib.hid hk3F
                    replace hko3F := Lib.hid hko3F
                    replace hbiF := Lib.hid hbiF
                    replace hlook := Lib.hid hlook
                    replace hlu := Lib.hid hlu
                    replace hbF := Lib.hid hbF
                    replace hxv := Lib.hid hxv
                    have hXFe := Lib.hid hXF
                    clear hC3 hk3 hko3 hkF hbi hRF f0 f1 f2 hXF
                    refine Free.wp_region_chain (fun i => i == 18 || i == 19) (fun i => true) (fun j b => j = 19 ∧ WF.heap.size ≤ b) (by kernel_rfl) (by kernel_rfl) (by kernel_rfl) ?_
                    (repeat (first | (apply Free.cw_pure rfl rfl; (intro w'; go_simp <;> exact rfl); go_frame) | (apply Free.cw_steady rfl rfl rfl; (intro w' hS2; have z0 := Free.sx_cell hS2 d7 (fun _ _ hT => by omega); have z1 := Free.sx_cell hS2 r0 (fun _ _ hT => by omega); have z2 := Free.sx_cell hS2 r1 (fun _ _ hT => by omega); have z3 := Free.sx_cell hS2 y0 (fun _ _ hT => by omega); have z5 := hlook.out w' (hS2.block bm hbmF (fun ⟨_, _, _, hT⟩ => by omega)); go_simp <;> exact rfl); go_frame)))
                    refine Free.cw_loud rfl rfl (fun K hK => ?_)
                    go_wp2
                    refine hK _ _ rfl (Free.KeepsP.alloc _ _ _) ?_
                    clear hK K
                    (repeat (apply Free.cw_pure rfl rfl; (intro w'; go_simp <;> exact rfl); go_frame))
                    refine Free.cw_loud rfl rfl (fun K hK => ?_)
                    go_wp2
                    refine hK _ _ rfl (keepsP_remade (S := fun b => True ∧ WF.heap.size ≤ b) WF _ _ ⟨trivial, Nat.le_refl _⟩).drews ?_
                    clear hK K
                    (repeat (apply Free.cw_pure rfl rfl; (intro w'; go_simp <;> exact rfl); go_frame))
                    refine Free.cw_nil ?_
                    have hsc : scC t a.m Q (e0, e1, e2) = Q.set n ((Q[n]'(by have := hn3.out; omega)).upd 1 (addN (e0, e1, v6) ((Q[n]'(by have := hn3.out; omega)).at 1))) := by
                      unfold scC
                      rw [updL_at hn3.out, ← hlu.out]
                    rw [hsc] at hst3
                    have hkN : Keeps [] WF ((WF.alloc (.cells #[.int .i64 e0, .int .u64 e1, .int .i64 v6] tN)).drew) := ((Keeps.refl _ _).alloc _).drew
                    have hbN : ((WF.alloc (.cells #[.int .i64 e0, .int .u64 e1, .int .i64 v6] tN)).drew).heap[XF + 1]? = some (.cells #[.int .i64 e0, .int .u64 e1, .int .i64 v6] tN (0, 0)) := by
                      have := heap_alloc_new WF (.cells #[.int .i64 e0, .int .u64 e1, .int .i64 v6] tN)
                      rw [hzF] at this
                      exact this
                    generalize ((WF.alloc (.cells #[.int .i64 e0, .int .u64 e1, .int .i64 v6] tN)).drew) = WN at *
                    have hCN := hCF.out.keeps hkN
                    have hk3N := hk3F.out.trans hkN
                    have hko3N := hko3F.out.trans (KO.nil hkN)
                    have hbiN := (hkN.block XA (lt_of_blk hbiF.out) (by simp)).trans hbiF.out
                    have hlow : ∀ b, (Value.slice (some ⟨gc, 0, none⟩) (n + 1) cc1).ownBlock = some b → b < WF.heap.size := fun b hb => hCF.out.c.lt b hb
                    have hgF : gc < WF.heap.size := hlow gc (by simp [Value.ownBlock])
                    have hn4 := hn3.out
                    obtain ⟨⟨sa, sn, sc⟩, hv0⟩ : ∃ x, V3 n 1 = x := ⟨_, rfl⟩
                    have hOn := hCN.o n 1 (by omega) (by omega)
                    have hOlt : ∀ b, (slv (V3 n 1)).ownBlock = some b → b < WF.heap.size := fun b hb => (hCF.out.o n 1 (by omega) (by omega)).lt b hb
                    have hng := fun b (e : (slv (V3 n 1)).ownBlock = some b) => hCN.ne (by omega) (by omega) e
                    have hll := hbd3.out n (by omega) 1 (by omega)
                    obtain ⟨gc', cc', ev, hgB', hgl', _, _, _, m3, _, mf⟩ := hCN.row (k := n) (by omega)
                    rw [hn4] at ev
                    cases ev
                    rw [hv0] at hOn hng m3 hOlt
                    simp only [slv] at hOn hng m3 hOlt
                    have hne1 : ∀ b, (Value.slice sa sn sc).ownBlock = some b → b ≠ gc := fun b e e2 => hng b e (by simp [Value.ownBlock, e2])
                    have hne2 : ∀ b, (Value.slice sa sn sc).ownBlock = some b → b ≠ XF + 1 := fun b e e2 => by have := hOlt b e; omega
                    have hne3 : XF + 1 ≠ gc := by omega
                    obtain ⟨r0, r1, r2⟩ := cells3t hbN
                    have hcon := fun (W : World) (hk : Keeps [] WN W) => containsN_c W _ _ (e0, e1, v6) (hOn.r.keeps hk)
                    obtain ⟨ib, hib⟩ : ∃ ib, decide ((e0, e1, v6) ∈ Q[n].at 1) = ib := ⟨_, rfl⟩
                    rw [hib] at hcon
                    simp only [tV] at hcon
                    replace hib := Lib.hid hib
                    replace hcon := Lib.hid hcon
                    replace hCN := Lib.hid hCN
                    replace hk3N := Lib.hid hk3N
                    replace hko3N := Lib.hid hko3N
                    replace hbiN := Lib.hid hbiN
                    replace hbN := Lib.hid hbN
                    replace hne1 := Lib.hid hne1
                    replace hne2 := Lib.hid hne2
                    replace hOn := Lib.hid hOn
                    replace hll := Lib.hid hll
                    replace hst3 := Lib.hid hst3.out
                    have hn5 := Lib.hid hn4
                    clear hsc hkN hng hOlt hlow hCF hk3F hko3F hbiF hlook hlu hbF hfl d7 y0 y1 y2 y3 y4 y5 y6 y7 yf ylt hxv
                    go_wp2
                    refine Free.wp_region_chain (fun i => i == 5) (fun i => true) (fun _ _ => False) (by kernel_rfl) (by kernel_rfl) (by kernel_rfl) ?_
                    (repeat (first | (apply Free.cw_pure rfl rfl; (intro w'; go_simp <;> exact rfl); go_frame) | (apply Free.cw_steady rfl rfl rfl; (intro w' hS; have q0 := Free.sx_cell hS m3 (fun _ _ hT => hT); have q1 := Free.sx_cell hS r0 (fun _ _ hT => hT); have q2 := Free.sx_cell hS r1 (fun _ _ hT => hT); have q3 := Free.sx_cell hS r2 (fun _ _ hT => hT); go_simp <;> exact rfl); go_frame) | (refine Free.cw_skip rfl ?_; go_frame)))
                    refine Free.cw_loud rfl rfl (fun K hK => ?_)
                    go_wp2_with fail
                    refine (hcon.out _ ((Keeps.refl [] _).drew)).mono ?_
                    rintro e wB ⟨rfl, hkB0⟩
                    refine hK _ _ rfl (Free.KeepsP.of hkB0 (by simp)) ?_
                    clear hK K hcon
                    (repeat (apply Free.cw_pure rfl rfl; (intro w'; go_simp <;> exact rfl); go_frame))
                    refine Free.cw_nil ?_
                    have hkB : Keeps [] WN wB := ((Keeps.refl [] WN).drew).trans hkB0
                    have hCB := hCN.out.keeps hkB
                    have hk3B := hk3N.out.trans hkB
                    have hko3B := hko3N.out.trans (KO.nil hkB)
                    have hbB := (hkB.block _ (lt_of_blk hbN.out) (by simp)).trans hbN.out
                    have hOB := hOn.out.keeps hkB
                    have m3B := hkB.val m3
                    have mfB : ∀ o, wB.frozen? ⟨gc, o, none⟩ = false := fun o => (hkB.frozen gc o hgl' (by simp)).trans (mf o)
                    have hglB : gc < wB.heap.size := Nat.lt_of_lt_of_le hgl' hkB.size
                    obtain ⟨r0, r1, r2⟩ := cells3t hbB
                    have hXB : XF + 1 < wB.heap.size := lt_of_blk hbB
                    replace hCB := Lib.hid hCB
                    replace hk3B := Lib.hid hk3B
                    replace hko3B := Lib.hid hko3B
                    replace hOB := Lib.hid hOB
                    clear hCN hk3N hko3N hbN hbiN hOn m3 mf hgl' hkB0 hkB hbB
                    cases ib with
                    | true =>
                      have hsame : Q.set n (Q[n].upd 1 (addN (e0, e1, v6) (Q[n].at 1))) = Q := by
                        have h1 : addN (e0, e1, v6) (Q[n].at 1) = Q[n].at 1 := if_pos (of_decide_eq_true hib.out)
                        rw [h1, upd_same _ _ (by omega)]
                        exact List.set_getElem_self _
                      have hst4 := hst3.out
                      rw [hsame] at hst4
                      replace hCB := hCB.out
                      rw [← hst4] at hCB
                      replace hCB := Lib.hid hCB
                      clear hsame hst4
                      go_wp2
                      go_roundw
                      case rel => exact ⟨j + 1, rfl, by omega, V3, hCB, hk3B, hko3B⟩
                      case measure => simp [intOf]; omega
                    | false =>
                      have hst4 := hst3.out
                      rw [show addN (e0, e1, v6) (Q[n].at 1) = Q[n].at 1 ++ [(e0, e1, v6)] from if_neg (of_decide_eq_false hib.out)] at hst4
                      replace hst4 := Lib.hid hst4
                      go_wp2
                      refine Free.wp_region_chain (fun i => i == 6 || i == 7 || i == 10) (fun i => true) (fun j b => (j = 7 ∧ (Value.slice sa sn sc).ownBlock = some b) ∨ (j = 10 ∧ b = gc)) (by kernel_rfl) (by kernel_rfl) (by kernel_rfl) ?_
                      (repeat (first | (apply Free.cw_pure rfl rfl; (intro w'; go_simp <;> exact rfl); go_frame) | (apply Free.cw_steady rfl rfl rfl; (intro w' hS; have q0 := Free.sx_cell hS m3B (fun j hp hT => Or.elim hT (fun h => hne1.out _ h.2 rfl) (fun h => by obtain ⟨rfl, _⟩ := h; exact absurd hp (by decide +kernel))); have q1 := Free.sx_cell hS r0 (fun j hp hT => Or.elim hT (fun h => hne2.out _ h.2 rfl) (fun h => hne3 h.2)); have q2 := Free.sx_cell hS r1 (fun j hp hT => Or.elim hT (fun h => hne2.out _ h.2 rfl) (fun h => hne3 h.2)); have q3 := Free.sx_cell hS r2 (fun j hp hT => Or.elim hT (fun h => hne2.out _ h.2 rfl) (fun h => hne3 h.2)); go_simp <;> exact rfl); go_frame) | (refine Free.cw_skip rfl ?_; go_frame)))
                      refine Free.cw_loud rfl rfl (fun K hK => ?_)
                      go_wp2
                      refine hK _ _ rfl (Free.KeepsP.alloc _ _ _) ?_
                      clear hK K
                      (repeat (apply Free.cw_pure rfl rfl; (intro w'; go_simp <;> exact rfl); go_frame))
                      refine Free.cw_loud rfl rfl (fun K hK => ?_)
                      have hkE : Keeps [] wB ((wB.alloc (.cells #[.int .i64 e0, .int .u64 e1, .int .i64 v6] tN)).drew) := ((Keeps.refl _ _).alloc _).drew
                      have hmade := (Sh.O.one shT wB (e0, e1, v6) #[.int .i64 e0, .int .u64 e1, .int .i64 v6] tN 0 rfl (by omega)).keeps ((Keeps.refl [] _).drew)
                      have hOE := hOB.out.keeps hkE
                      have hCE := hCB.out.keeps hkE
                      have hlE := hkE.size
                      refine Sh.wp_app shT W3.heap.size infoN rfl Tryz.underlying85 (.slice sa sn sc) (.slice (some ⟨wB.heap.size, 0, none⟩) 1 1) (Q[n].at 1) [(e0, e1, v6)] _ _ rfl rfl rfl hOE hmade.r (by have := hll.out; simp only [List.length_cons, List.length_nil]; omega) (Nat.le_trans hk3B.out.size hlE) ?_
                      intro v5 w5 hO5 hG5
                      obtain ⟨a5, c5, rfl⟩ := hO5.form
                      obtain ⟨N5, hN5⟩ : ∃ q, (Q[n].at 1 ++ [(e0, e1, v6)]).length = q := ⟨_, rfl⟩
                      rw [hN5] at hO5 hG5 ⊢
                      refine hK _ _ rfl (Free.KeepsP.of hG5.keepsO (fun b hb => .inl ⟨rfl, by simpa using hb⟩)) ?_
                      clear hK K
                      have hC6 := hCE.app (k := n) (j := 1) (by have := hn5.out; omega) (by omega) (v' := (a5, N5, c5)) (by rw [hv0]; exact hG5) hO5
                      rw [← hst4.out] at hC6
                      have hng5 : gc ∉ (Value.slice sa sn sc).ownBlock.toList := fun hm => hne1.out gc (by simpa using hm) rfl
                      have hgl5 : gc < ((wB.alloc (.cells #[.int .i64 e0, .int .u64 e1, .int .i64 v6] tN)).drew).heap.size := Nat.lt_of_lt_of_le hglB hlE
                      have m5 := (hG5.keepsO.cell gc (n * 5 + 3) hgl5 hng5).trans (hkE.val m3B)
                      have f5 := (hG5.keepsO.frozen gc (n * 5 + 3) hgl5 hng5).trans ((hkE.frozen gc (n * 5 + 3) hglB (by simp)).trans (mfB _))
                      have hkS : Keeps [gc] w5 (w5.setCell ⟨gc, n * 5 + (2 + 1), none⟩ (.slice a5 N5 c5)) := (Keeps.refl _ _).setCell (.inr (by simp)) _
                      have hk6 : Keeps [] W3 (w5.setCell ⟨gc, n * 5 + (2 + 1), none⟩ (.slice a5 N5 c5)) := (Grw.keeps (hk3B.out.trans hkE) hG5 (fun b hb => hOE.ge b hb)).fresh hkS (fun b hb => by simp at hb; subst hb; exact .inr hgB)
                      have hko6 : KO wc (w5.setCell ⟨gc, n * 5 + (2 + 1), none⟩ (.slice a5 N5 c5)) := hko3B.out.trans (((KO.nil hkE).trans (KO.grwN hG5 hOE)).trans (KO.of hkS (fun b hb => by
                        simp at hb; subst hb
                        obtain ⟨cs, hc⟩ := hCE.c.tag b (by simp [Value.ownBlock])
                        exact ⟨cs, _, _, (hG5.keepsO.block b hgl5 hng5).trans hc, .inl rfl⟩)))
                      have hgl6 := lt_of_cell m5
                      replace hC6 := Lib.hid hC6
                      replace hk6 := Lib.hid hk6
                      replace hko6 := Lib.hid hko6
                      replace hkS := Lib.hid hkS
                      clear hO5 hG5 hmade hOE hCE hkE hlE hng5 hgl5
                      (repeat (apply Free.cw_pure rfl rfl; (intro w'; go_simp <;> exact rfl); go_frame))
                      refine Free.cw_loud rfl rfl (fun K hK => ?_)
                      go_wp2
                      refine hK _ _ rfl (Free.KeepsP.of hkS.out (fun b hb => .inr ⟨trivial, by simpa using hb⟩)) ?_
                      clear hK K
                      refine Free.cw_nil ?_
                      go_wp2
                      go_roundw
                      case rel => exact ⟨j + 1, rfl, by omega, _, hC6, hk6, hko6⟩
                      case measure => simp [intOf]; omega
                  · have hjx : j = x8 := by omega
                    subst hjx
                    have hfin : (a.ins.take j).foldl (scC t a.m) P2 = rawOf t O (Y.take (k + 1)) := by rw [hst2.out, hx8.out, foldl_all]
                    replace hC3 := hC3.out
                    rw [hfin] at hC3
                    replace hC3 := Lib.hid hC3
                    clear hfin
                    go_wp2
                    go_roundw
                    case rel => exact ⟨k + 1, rfl, by omega, _, hC3, hk3⟩
                    case measure => simp [intOf]; omega
        --DEV2
        · have hkN : N = k := by omega
          subst hkN
          obtain ⟨P, hP⟩ : ∃ P, rawOf t O Y = P := ⟨_, rfl⟩
          have hPt : rawOf t O (Y.take N) = P := by rw [← hNY.out, List.take_length, hP]
          obtain ⟨hbd, hPl⟩ := rawOf_take t O Y (fun a ha => (hYok.out a ha).len) N (by rw [hNY.out]; exact Nat.le_refl _)
          rw [hPt] at hC hbd hPl
          obtain ⟨ca, cc, rfl⟩ := hC.out.c.form
          obtain ⟨NP, hNP⟩ : ∃ n, P.length = n := ⟨_, rfl⟩
          rw [rowsC_len, hNP] at hC ⊢
          have hNP1 : NP ≤ 1000 := by omega
          replace hbd := Lib.hid hbd
          replace hNP := Lib.hid hNP
          replace hP := Lib.hid hP
          clear hPt hPl
          go_wp2
          have hW3s := hkr.out.size
          go_loopw [187] (fun i wl => ∃ k : Nat, i = .int .i64 k ∧ k ≤ NP ∧ ∃ Q, Hid (CL wl W3.heap.size (.slice ca NP cc) Q V) ∧ Hid (Srt k 0 P Q) ∧ Hid (Keeps [] W3 wl)) (fun i _ => NP - (intOf i).toNat)
          case atStart => exact ⟨0, rfl, by omega, P, hC, Lib.hid (Srt.start P), hkr⟩
          case round =>
            obtain ⟨k, rfl, hk, Q, hCQ, hS5, hk5⟩ := hrel
            by_cases hlt5 : k < NP
            · have hQl : Q.length = NP := by rw [hS5.out.1]; exact hNP.out
              have hrow := hCQ.out.row (k := k) (by rw [hQl]; exact hlt5)
              obtain ⟨gc, cc1, ev, hgB, hgl, _, _, m2, m3, m4, _⟩ := hrow
              rw [hQl] at ev
              cases ev
              have hk5s := hk5.out.size
              replace hQl := Lib.hid hQl
              go_wp2
              refine Free.wp_region_chain (fun i => i == 15) (fun i => true) (fun _ _ => False) (by kernel_rfl) (by kernel_rfl) (by kernel_rfl) ?_
              (repeat (first | (apply Free.cw_pure rfl rfl; (intro w'; go_simp <;> exact rfl); go_frame) | (apply Free.cw_steady rfl rfl rfl; (intro w' hS; have q0 := Free.sx_cell hS m2 (fun _ _ hT => hT); have q1 := Free.sx_cell hS m3 (fun _ _ hT => hT); have q2 := Free.sx_cell hS m4 (fun _ _ hT => hT); go_simp <;> exact rfl); go_frame) | (refine Free.cw_skip rfl ?_; go_frame)))
              refine Free.cw_loud rfl rfl (fun K hK => ?_)
              go_wp2
              refine hK _ _ rfl (Free.KeepsP.alloc _ _ _) ?_
              clear hK K
              (repeat (apply Free.cw_pure rfl rfl; (intro w'; go_simp <;> exact rfl); go_frame))
              refine Free.cw_nil ?_
              have hkB : Keeps [] wr ((wr.alloc (.cells #[slv (V k 0), slv (V k 1), slv (V k 2)] 85)).drew) := ((Keeps.refl _ _).alloc _).drew
              have hbB : ((wr.alloc (.cells #[slv (V k 0), slv (V k 1), slv (V k 2)] 85)).drew).heap[wr.heap.size]? = some (.cells #[slv (V k 0), slv (V k 1), slv (V k 2)] 85 (0, 0)) := heap_alloc_new wr _
              generalize ((wr.alloc (.cells #[slv (V k 0), slv (V k 1), slv (V k 2)] 85)).drew) = WB at *
              obtain ⟨XB, hXB⟩ : ∃ b, wr.heap.size = b := ⟨_, rfl⟩
              have hCB := hCQ.out.keeps hkB
              have hk5B := hk5.out.trans hkB
              have hSj : Srt k 0 P Q := hS5.out
              rw [hXB] at hbB ⊢
              replace hbB := Lib.hid hbB
              replace hCB := Lib.hid hCB
              replace hk5B := Lib.hid hk5B
              replace hSj := Lib.hid hSj
              clear hXB hkB hCQ hk5 hS5 m2 m3 m4 hgl hk5s
              go_wp2
              go_loopw [207] (fun i wl => ∃ j : Nat, i = .int .i64 j ∧ j ≤ 3 ∧ ∃ Q, Hid (CL wl W3.heap.size (.slice (some ⟨gc, 0, none⟩) NP cc) Q V) ∧ Hid (Srt k j P Q) ∧ Hid (Keeps [] W3 wl) ∧ Hid (KO WB wl)) (fun i _ => 3 - (intOf i).toNat)
              case atStart => exact ⟨0, rfl, by omega, Q, hCB, hSj, hk5B, Lib.hid (KO.nil (Keeps.refl _ _))⟩
              case round =>
                obtain ⟨j, rfl, hj, Q6, hC6, hS6, hk6, hko6⟩ := hrel
                by_cases hlt6 : j < 3
                · have hb6 := (hko6.out.2 XB _ _ _ hbB.out (by decide) (by decide)).trans hbB.out
                  have hc6 := cells3s (u := fun j => slv (V k j)) hb6 hlt6
                  have hQ6 : Q6.length = NP := by rw [hS6.out.1]; exact hNP.out
                  have hO6 := hC6.out.o k j (by rw [hQ6]; exact hlt5) hlt6
                  have hl6 : ((Q6[k]'(by rw [hQ6]; exact hlt5)).at j).length ≤ 1000000000000 := by
                    have h1 := ((hS6.out.2 k (by rw [hQ6]; exact hlt5) (by rw [hNP.out]; exact hlt5)).2.2 j hlt6).1.length_eq
                    have h2 := hbd.out k (by rw [hNP.out]; exact hlt5) j hlt6
                    omega
                  have hXl := lt_of_cell hc6
                  obtain ⟨⟨sa, sn, sc⟩, hv0⟩ : ∃ x, V k j = x := ⟨_, rfl⟩
                  rw [hv0] at hO6
                  simp only [hv0, slv] at hc6 hO6
                  have hsort := sortT_c wr W3.heap.size _ _ hO6 hl6
                  replace hsort := Lib.hid hsort
                  replace hO6 := Lib.hid hO6
                  replace hQ6 := Lib.hid hQ6
                  clear hb6 hl6
                  go_wp2_with fail
                  refine hsort.out.mono ?_
                  rintro e w7 ⟨rfl, L', hp7, hw7, hO7, hk7⟩
                  have hkn : k < Q6.length := by rw [hQ6.out]; exact hlt5
                  have hC7 := hC6.out.turn (k := k) (j := j) hkn hlt6 (L' := L') (w' := w7) (by rw [hv0]; exact hk7) (by rw [hv0]; exact hO7)
                  have hS7 := hS6.out.step hkn hlt6 hp7 hw7
                  have hkk7 : Keeps [] W3 w7 := hk6.out.fresh hk7 (fun b hb => .inr (hO6.out.ge b (by simpa using hb)))
                  have hko7 : KO WB w7 := hko6.out.trans (KO.of hk7 (fun b hb => by
                    obtain ⟨cs, hc⟩ := hO6.out.tag b (by simpa using hb)
                    exact ⟨cs, _, _, hc, .inr rfl⟩))
                  replace hC7 := Lib.hid hC7
                  replace hS7 := Lib.hid hS7
                  replace hkk7 := Lib.hid hkk7
                  replace hko7 := Lib.hid hko7
                  clear hp7 hw7 hO7 hk7 hsort
                  go_wp2
                  go_roundw
                  case rel => exact ⟨j + 1, rfl, by omega, _, hC7, hS7, hkk7, hko7⟩
                  case measure => simp [intOf]; omega
                · have hj3 : j = 3 := by omega
                  subst hj3
                  have hSn := Lib.hid hS6.out.next
                  go_wp2
                  go_roundw
                  case rel => exact ⟨k + 1, rfl, by omega, Q6, hC6, hSn, hk6⟩
                  case measure => simp [intOf]; omega
            · have hkN : k = NP := by omega
              subst hkN
              have hfin : ∃ P V Bc Y, w.heap.size ≤ Bc ∧ CL wr Bc (.slice ca k cc) P V ∧ SortedA t Y ∧ ClaimsP t Y P ∧ Keeps [] w wr := by
                refine ⟨Q, V, W3.heap.size, Y, hwW, hCQ.out, hS.out, ?_, hk03.out.trans hk5.out⟩
                have hs := hS5.out
                unfold ClaimsP
                rw [hOe.out, hP.out]
                exact ⟨hs.1, fun i h1 h2 => ⟨(hs.2 i h1 h2).1, (hs.2 i h1 h2).2.1, fun l hl => ⟨((hs.2 i h1 h2).2.2 l hl).1, ((hs.2 i h1 h2).2.2 l hl).2 (.inl (by rw [hs.1, hNP.out] at h1; exact h1))⟩⟩⟩
              replace hfin := Lib.hid hfin
              go_wp2
              go_ret
              obtain ⟨Pf, Vf, Bf, Yf, g1, g2, g3, g4, g5⟩ := hfin.out
              exact ⟨_, Pf, Vf, Bf, Yf, rfl, g1, g2, g3, g4, g5⟩
end Go.Proofs.YtpobepninifenaaGreat
