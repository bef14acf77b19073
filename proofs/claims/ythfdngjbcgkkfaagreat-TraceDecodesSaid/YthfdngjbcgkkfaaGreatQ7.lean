/- Texts that the laws lean on, in the order in which they build. The specification's less, lastUse, out. append(append(append([]E{}, ..), x), ..) in one region that draws its order: the facts of its operations. Of whatever program. The specification's Sorted. The specification's put. The specification's comparisons of needs and of claims. The specification's ClaimsOf. -/
import Derived.Test.YthfdngjbcgkkfaaGreatQ6
import Derived.Deep.CutRange
set_option linter.unusedVariables false
set_option linter.unusedSimpArgs false
namespace Go.Proofs.YthfdngjbcgkkfaaGreat
open Go.RowKit

set_option maxRecDepth 100000 in
set_option maxHeartbeats 2000000 in
theorem lessR_c (w : World) (x y : AnV) : Calls Tryz.prog 68 #[aV x, aV y] w fun e w' => e = .returned (.bool (decide (qlt x.q y.q))) ∧ Keeps [] w w' := by
  obtain ⟨x0, x1, x2, x3, x4, x5, x6, x7, x8, x9⟩ := x
  obtain ⟨y0, y1, y2, y3, y4, y5, y6, y7, y8, y9⟩ := y
  simp only [aV, AnV.v]
  have hkA : Keeps [] w ((w.alloc (.cells #[.int .i64 x0, .int .i64 x1, .int .u64 x2, .int .i64 x3, .bool x4, .bool x5, .int .i64 x6, .slice x7 x8 x9] tA)).alloc (.cells #[.int .i64 y0, .int .i64 y1, .int .u64 y2, .int .i64 y3, .bool y4, .bool y5, .int .i64 y6, .slice y7 y8 y9] tA)) := ((Keeps.refl _ _).alloc _).alloc _
  obtain ⟨r, hr⟩ : ∃ r, decide (qlt (AnV.q ⟨x0, x1, x2, x3, x4, x5, x6, x7, x8, x9⟩) (AnV.q ⟨y0, y1, y2, y3, y4, y5, y6, y7, y8, y9⟩)) = r := ⟨_, rfl⟩
  rw [hr]
  replace hkA := Lib.hid hkA
  by_cases a0 : x0 = y0
  · have b0 : (x0 != y0) = false := by simpa using a0
    by_cases a1 : x1 = y1
    · have b1 : (x1 != y1) = false := by simpa using a1
      have hd : decide ((x2 : Int) < (y2 : Int)) = r := by rw [← hr]; exact decide_eq_decide.2 (by unfold qlt AnV.q; simp only; omega)
      replace hr := Lib.hid hr
      replace a0 := Lib.hid a0
      replace a1 := Lib.hid a1
      go_enter Tryz.func68, Tryz.ntmps68
      go_wp2
      go_ret
      exact ⟨by first | (rw [← hd]; rfl) | (rw [← hd]; simp), hkA.out⟩
    · have b1 : (x1 != y1) = true := by simpa using a1
      have hd : decide (x1 < y1) = r := by rw [← hr]; exact decide_eq_decide.2 (by unfold qlt AnV.q; simp only; omega)
      replace hr := Lib.hid hr
      replace a0 := Lib.hid a0
      go_enter Tryz.func68, Tryz.ntmps68
      go_wp2
      go_ret
      exact ⟨by rw [← hd]; rfl, hkA.out⟩
  · have b0 : (x0 != y0) = true := by simpa using a0
    have hd : decide (x0 < y0) = r := by rw [← hr]; exact decide_eq_decide.2 (by unfold qlt AnV.q; simp only; omega)
    replace hr := Lib.hid hr
    go_enter Tryz.func68, Tryz.ntmps68
    go_wp2
    go_ret
    exact ⟨by rw [← hd]; rfl, hkA.out⟩
/-- A list of answers that is read. -/
def RdA (w : World) (v : Value) (Y : List Ans) : Prop := ∃ X, shA.R w v X ∧ LRd w X Y
theorem RdA.keeps {w w' : World} {v : Value} {Y : List Ans} (h : RdA w v Y) (hk : Keeps [] w w') : RdA w' v Y := by
  obtain ⟨X, h1, h2⟩ := h
  exact ⟨X, h1.keeps hk, h2.keeps hk⟩
theorem RdA.form {w : World} {v : Value} {Y : List Ans} (h : RdA w v Y) : ∃ a c, v = .slice a Y.length c ∧ Y.length ≤ c ∧ c ≤ maxLen := by
  obtain ⟨X, h1, h2⟩ := h
  obtain ⟨a, c, e, e1, e2, _⟩ := h1.form
  rw [h2.1] at e e1
  exact ⟨a, c, e, e1, e2⟩
theorem RdA.elem {w : World} {v : Value} {Y : List Ans} (h : RdA w v Y) {k : Nat} (hk : k < Y.length) : ∃ g o c x, v = .slice (some ⟨g, o, none⟩) Y.length c ∧ InR w x Y[k] ∧ ∀ j u, x.cs[j]? = some u → w.cell? ⟨g, o + k * 8 + j, none⟩ = some u := by
  obtain ⟨X, h1, h2⟩ := h
  have hkX : k < X.length := by rw [h2.1]; exact hk
  obtain ⟨g, o, c, e, he⟩ := h1.elem hkX
  rw [h2.1] at e
  exact ⟨g, o, c, X[k], e, h2.2 k _ _ (List.getElem?_eq_getElem hkX) (List.getElem?_eq_getElem hk), he⟩
theorem luL_at {Y : List Ans} {q : Qn} {k : Nat} (hk : k < Y.length) (hno : ∀ j (hj : j < Y.length), j < k → Y[j].q ≠ q) (hq : Y[k].q = q) : luL Y q = Y[k].lu := by
  unfold luL
  have : Y.find? (fun a => decide (a.q = q)) = some Y[k] := List.find?_eq_some_iff_getElem.2 ⟨by simpa using hq, k, hk, rfl, fun j hj => by simpa using hno j (by omega) hj⟩
  rw [this]; rfl
theorem luL_no {Y : List Ans} {q : Qn} (hno : ∀ j (hj : j < Y.length), Y[j].q ≠ q) : luL Y q = 0 := by
  unfold luL
  have : Y.find? (fun a => decide (a.q = q)) = none := List.find?_eq_none.2 (fun c hc => by
    obtain ⟨j, hj, rfl⟩ := List.mem_iff_getElem.1 hc
    simpa using hno j hj)
  rw [this]; rfl
set_option maxRecDepth 100000 in
set_option maxHeartbeats 2000000 in
theorem lastUseR_c (w : World) (v : Value) (Y : List Ans) (m o' : Int) (n : Nat) (h : RdA w v Y) :
    Calls Tryz.prog 66 #[v, .int .i64 m, .int .i64 o', .int .u64 n] w fun e w' => e = .returned (.int .i64 (luL Y (m, o', n))) ∧ Keeps [] w w' := by
  obtain ⟨a, c, rfl, hlc, hcm⟩ := h.form
  have hel := fun k hk => h.elem (k := k) hk
  obtain ⟨M, hM⟩ : ∃ N, Y.length = N := ⟨_, rfl⟩
  rw [hM] at hlc ⊢
  have hMm : M ≤ 9223372036854775807 := by unfold maxLen at hcm; omega
  obtain ⟨r, hr⟩ : ∃ r, luL Y (m, o', n) = r := ⟨_, rfl⟩
  rw [hr]
  replace hel := Lib.hid hel
  replace hM := Lib.hid hM
  replace hr := Lib.hid hr
  clear h
  go_enter Tryz.func66, Tryz.ntmps66
  go_wp2
  go_loopw [9] (fun i wr => ∃ k : Nat, i = .int .i64 k ∧ k ≤ M ∧ Hid (∀ j (hj : j < Y.length), j < k → Y[j].q ≠ (m, o', n)) ∧ Hid (Keeps [] w wr)) (fun i _ => M - (intOf i).toNat)
  case atStart => exact ⟨0, rfl, by omega, Lib.hid (fun _ _ h => by omega), Lib.hid (Keeps.refl _ _)⟩
  case round =>
    obtain ⟨k, rfl, hk, hno, hkw⟩ := hrel
    by_cases hlt : k < M
    · have hkl : k < Y.length := by rw [hM.out]; exact hlt
      obtain ⟨g, o, c', x, hv, hx, he⟩ := hel.out k hkl
      rw [hM.out] at hv
      cases hv
      have m0 := hx.m
      have m1 := hx.ow
      have m2 := hx.n
      have m6 := hx.lu
      obtain ⟨x0, x1, x2, x3, x4, x5, x6, x7, x8, x9⟩ := x
      have e0 := hkw.out.val (he 0 _ rfl)
      have e1 := hkw.out.val (he 1 _ rfl)
      have e2 := hkw.out.val (he 2 _ rfl)
      have e6 := hkw.out.val (he 6 _ rfl)
      simp only [AnV.v, Nat.add_zero] at e0 e1 e2 e6 m0 m1 m2 m6
      have hno2 : ¬ (x0 = m ∧ x1 = o' ∧ x2 = n) → ∀ j (hj : j < Y.length), j < k + 1 → Y[j].q ≠ (m, o', n) := fun hn j hj hjk => by
        by_cases e : j = k
        · subst e
          intro e2
          unfold Ans.q at e2
          simp only [Prod.mk.injEq] at e2
          exact hn ⟨m0.trans e2.1, m1.trans e2.2.1, m2.trans e2.2.2⟩
        · exact hno.out j hj (by omega)
      replace hno2 := Lib.hid hno2
      replace m0 := Lib.hid m0
      replace m1 := Lib.hid m1
      replace m2 := Lib.hid m2
      replace m6 := Lib.hid m6
      clear he hx
      by_cases a0 : x0 = m
      · have b0 : (x0 == m) = true := by simpa using a0
        by_cases a1 : x1 = o'
        · have b1 : (x1 == o') = true := by simpa using a1
          by_cases a2 : x2 = n
          · have b2 : ((x2 : Int) == (n : Int)) = true := by simp [a2]
            have hd : x6 = r := by
              rw [← hr.out, m6.out]
              exact (luL_at hkl hno.out (by unfold Ans.q; rw [← m0.out, ← m1.out, ← m2.out, a0, a1, a2])).symm
            replace a0 := Lib.hid a0
            replace a1 := Lib.hid a1
            replace a2 := Lib.hid a2
            replace hd := Lib.hid hd
            go_wp2
            go_ret
            exact ⟨by rw [← hd.out]; rfl, hkw.out⟩
          · have b2 : ((x2 : Int) == (n : Int)) = false := by simp; omega
            have h2 := Lib.hid (hno2.out (fun h => a2 h.2.2))
            replace a0 := Lib.hid a0
            replace a1 := Lib.hid a1
            replace a2 := Lib.hid a2
            go_wp2
            go_roundw
            case rel => exact ⟨k + 1, rfl, by omega, h2, hkw⟩
            case measure => simp [intOf]; omega
        · have b1 : (x1 == o') = false := by simpa using a1
          have h2 := Lib.hid (hno2.out (fun h => a1 h.2.1))
          replace a0 := Lib.hid a0
          replace a1 := Lib.hid a1
          go_wp2
          go_roundw
          case rel => exact ⟨k + 1, rfl, by omega, h2, hkw⟩
          case measure => simp [intOf]; omega
      · have b0 : (x0 == m) = false := by simpa using a0
        have h2 := Lib.hid (hno2.out (fun h => a0 h.1))
        replace a0 := Lib.hid a0
        go_wp2
        go_roundw
        case rel => exact ⟨k + 1, rfl, by omega, h2, hkw⟩
        case measure => simp [intOf]; omega
    · have hd : (0 : Int) = r := by rw [← hr.out]; exact (luL_no (fun j hj => hno.out j hj (by rw [hM.out] at hj; omega))).symm
      replace hd := Lib.hid hd
      go_wp2
      go_ret
      exact ⟨by rw [← hd.out]; rfl, hkw.out⟩
def insF (a : Ans) (q : Qn) (x : T3) : Option Int := if a.m = q.1 ∧ x.1 = q.2.1 ∧ x.2.1 = q.2.2 then some x.2.2 else none
theorem outL_def (Y : List Ans) (q : Qn) : outL Y q = Y.findSome? (fun a => a.ins.findSome? (insF a q)) := rfl
theorem findSome_at {α β : Type} {f : α → Option β} {l : List α} {k : Nat} {b : β} (hk : k < l.length) (hno : ∀ j (hj : j < l.length), j < k → f l[j] = none) (hb : f l[k] = some b) : l.findSome? f = some b := by
  induction l generalizing k with
  | nil => simp at hk
  | cons a t ih =>
    cases k with
    | zero => rw [List.findSome?_cons]; simp only [List.getElem_cons_zero] at hb; rw [hb]
    | succ k =>
      have h0 := hno 0 (by simp) (by omega)
      simp only [List.getElem_cons_zero] at h0
      rw [List.findSome?_cons, h0]
      exact ih (k := k) (by simpa using hk) (fun j hj hjk => by have := hno (j + 1) (by simpa using hj) (by omega); simpa using this) (by simpa using hb)
theorem findSome_no {α β : Type} {f : α → Option β} {l : List α} (hno : ∀ j (hj : j < l.length), f l[j] = none) : l.findSome? f = none := by
  rw [List.findSome?_eq_none_iff]
  intro x hx
  obtain ⟨j, hj, rfl⟩ := List.mem_iff_getElem.1 hx
  exact hno j hj
def OutPost (w : World) (r : Option Int) (e : Ending) (w' : World) : Prop := e = .returned (.tuple #[.int .i64 (r.getD 0), .bool r.isSome]) ∧ Keeps [] w w'
set_option maxRecDepth 100000 in
set_option maxHeartbeats 4000000 in
theorem outR_c (w : World) (v : Value) (Y : List Ans) (m cl : Int) (n : Nat) (h : RdA w v Y) :
    Calls Tryz.prog 67 #[v, .int .i64 m, .int .i64 cl, .int .u64 n] w (OutPost w (outL Y (m, cl, n))) := by
  obtain ⟨a, c, rfl, hlc, hcm⟩ := h.form
  have hel := fun k hk => h.elem (k := k) hk
  obtain ⟨M, hM⟩ : ∃ N, Y.length = N := ⟨_, rfl⟩
  rw [hM] at hlc ⊢
  have hMm : M ≤ 9223372036854775807 := by unfold maxLen at hcm; omega
  obtain ⟨r, hr⟩ : ∃ r, outL Y (m, cl, n) = r := ⟨_, rfl⟩
  rw [hr]
  rw [outL_def] at hr
  replace hel := Lib.hid hel
  replace hM := Lib.hid hM
  replace hr := Lib.hid hr
  clear h
  go_enter Tryz.func67, Tryz.ntmps67
  go_wp2
  go_loopw [10] (fun i wr => ∃ k : Nat, i = .int .i64 k ∧ k ≤ M ∧ Hid (∀ j (hj : j < Y.length), j < k → Y[j].ins.findSome? (insF Y[j] (m, cl, n)) = none) ∧ Hid (Keeps [] w wr)) (fun i _ => M - (intOf i).toNat)
  case atStart => exact ⟨0, rfl, by omega, Lib.hid (fun _ _ h => by omega), Lib.hid (Keeps.refl _ _)⟩
  case round =>
    obtain ⟨k, rfl, hk, hno, hkw⟩ := hrel
    by_cases hlt : k < M
    · have hkl : k < Y.length := by rw [hM.out]; exact hlt
      obtain ⟨g, o, c', x, hv, hx, he⟩ := hel.out k hkl
      rw [hM.out] at hv
      cases hv
      have m0 := hx.m
      have hxi := hx.ins
      have hxif := hx.ins.form
      obtain ⟨x0, x1, x2, x3, x4, x5, x6, x7, x8, x9⟩ := x
      simp only [AnV.v] at hxi hxif m0
      have hx8 : Y[k].ins.length = x8 := by obtain ⟨_, _, e, _⟩ := hxif; simp only [Value.slice.injEq] at e; exact e.2.1.symm
      have hx8m : x8 ≤ 9223372036854775807 := by obtain ⟨_, c2, e, h1, h2, _⟩ := hxif; rw [hx8] at h1; unfold maxLen at h2; omega
      obtain ⟨A, hA⟩ : ∃ A, Y[k] = A := ⟨_, rfl⟩
      rw [hA] at hxi m0 hx8
      have he0 := he 0 _ rfl
      have he7 := he 7 _ rfl
      simp only [AnV.v, Nat.add_zero] at he0 he7
      replace m0 := Lib.hid m0
      replace hxi := Lib.hid hxi
      replace hx8 := Lib.hid hx8
      replace he0 := Lib.hid he0
      replace he7 := Lib.hid he7
      replace hA := Lib.hid hA
      clear hxif he hx
      go_wp2
      go_loopw [11] (fun i wl => ∃ j : Nat, i = .int .i64 j ∧ j ≤ x8 ∧ Hid (∀ i (hi : i < A.ins.length), i < j → insF A (m, cl, n) A.ins[i] = none) ∧ Hid (Keeps [] w wl)) (fun i _ => x8 - (intOf i).toNat)
      case atStart => exact ⟨0, rfl, by omega, Lib.hid (fun _ _ h => by omega), hkw⟩
      case round =>
        obtain ⟨j, rfl, hj, hnoj, hkj⟩ := hrel
        have e0 := hkj.out.val he0.out
        have e7 := hkj.out.val he7.out
        by_cases hltj : j < x8
        · have hjl : j < A.ins.length := by rw [hx8.out]; exact hltj
          obtain ⟨g3, o3, c3, hv3, he3⟩ := hxi.out.elem hjl
          rw [hx8.out] at hv3
          cases hv3
          obtain ⟨⟨p0, p1, p2⟩, hp3⟩ : ∃ x, A.ins[j] = x := ⟨_, rfl⟩
          rw [hp3] at he3
          have f0 := hkj.out.val (he3 0 _ rfl)
          have f1 := hkj.out.val (he3 1 _ rfl)
          have f2 := hkj.out.val (he3 2 _ rfl)
          simp only [shT, Nat.add_zero] at f0 f1 f2
          have hlt0 := lt_of_cell e0
          have hkP : Keeps [] w (wr.alloc (.cells #[.int .i64 p0, .int .u64 p1, .int .i64 p2] tI)) := hkj.out.alloc _
          have hno2 : ¬ (x0 = m ∧ p0 = cl ∧ p1 = n) → ∀ i (hi : i < A.ins.length), i < j + 1 → insF A (m, cl, n) A.ins[i] = none := fun hn i hi hij => by
            by_cases e : i = j
            · subst e
              rw [hp3]
              unfold insF
              rw [if_neg (fun h => hn ⟨by rw [m0.out]; exact h.1, h.2.1, h.2.2⟩)]
            · exact hnoj.out i hi (by omega)
          replace hno2 := Lib.hid hno2
          replace hkP := Lib.hid hkP
          replace hp3 := Lib.hid hp3
          clear he3
          by_cases a0 : x0 = m
          · have b0 : (x0 == m) = true := by simpa using a0
            by_cases a1 : p0 = cl
            · have b1 : (p0 == cl) = true := by simpa using a1
              by_cases a2 : p1 = n
              · have b2 : ((p1 : Int) == (n : Int)) = true := by simp [a2]
                have hins : A.ins.findSome? (insF A (m, cl, n)) = some p2 := findSome_at hjl hnoj.out (by rw [hp3.out]; unfold insF; rw [if_pos ⟨by rw [← m0.out]; exact a0, a1, a2⟩])
                have hd : r = some p2 := by
                  rw [← hr.out]
                  exact findSome_at hkl hno.out (by rw [hA.out]; exact hins)
                replace a0 := Lib.hid a0
                replace a1 := Lib.hid a1
                replace a2 := Lib.hid a2
                replace hd := Lib.hid hd
                clear hins
                go_wp2
                go_ret2
                exact ⟨by rw [hd.out]; rfl, hkP.out⟩
              · have b2 : ((p1 : Int) == (n : Int)) = false := by simp; omega
                have h2 := Lib.hid (hno2.out (fun h => a2 h.2.2))
                replace a0 := Lib.hid a0
                replace a1 := Lib.hid a1
                replace a2 := Lib.hid a2
                go_wp2
                go_roundw
                case rel => exact ⟨j + 1, rfl, by omega, h2, hkP⟩
                case measure => simp [intOf]; omega
            · have b1 : (p0 == cl) = false := by simpa using a1
              have h2 := Lib.hid (hno2.out (fun h => a1 h.2.1))
              replace a0 := Lib.hid a0
              replace a1 := Lib.hid a1
              go_wp2
              go_roundw
              case rel => exact ⟨j + 1, rfl, by omega, h2, hkP⟩
              case measure => simp [intOf]; omega
          · have b0 : (x0 == m) = false := by simpa using a0
            have h2 := Lib.hid (hno2.out (fun h => a0 h.1))
            replace a0 := Lib.hid a0
            go_wp2
            go_roundw
            case rel => exact ⟨j + 1, rfl, by omega, h2, hkP⟩
            case measure => simp [intOf]; omega
        · have hno3 : ∀ j (hj : j < Y.length), j < k + 1 → Y[j].ins.findSome? (insF Y[j] (m, cl, n)) = none := fun i hi hik => by
            by_cases e : i = k
            · subst e
              rw [hA.out]
              exact findSome_no (fun i hi => hnoj.out i hi (by rw [hx8.out] at hi; omega))
            · exact hno.out i hi (by omega)
          replace hno3 := Lib.hid hno3
          go_wp2
          go_roundw
          case rel => exact ⟨k + 1, rfl, by omega, hno3, hkj⟩
          case measure => simp [intOf]; omega
    · have hd : r = none := by rw [← hr.out]; exact findSome_no (fun j hj => hno.out j hj (by rw [hM.out] at hj; omega))
      replace hd := Lib.hid hd
      go_wp2
      go_ret2
      exact ⟨by rw [hd.out]; rfl, hkw.out⟩
end Go.Proofs.YthfdngjbcgkkfaaGreat

namespace Go.Proofs.YthfdngjbcgkkfaaGreat
open Go Go.RowKit

theorem run_append_empty {P : Program} {w : World} (base : Nat) (t ty e : TypeId) (i : TypeInfo) (z : Value) (size bytes : Nat) (ht : P.underlying t = some (.slice e)) (hi : P.info? e = some i) (hz : i.zero = some z)
    (hsize : i.size = size) (hby : i.bytes = bytes) (hzs : z.cells.size = size) (g : Nat) (hg : w.heap[g]? = some (.cells #[] e (0, 0))) (hgb : base ≤ g)
    (v2 : Value) (m : Nat) (ys : List Value) (hsl : Sl w size v2 m ys) (h1 : ∀ u ∈ ys, u.oneCell' = true) (h63 : m ≤ maxLen) (hbytes : m * bytes ≤ 140737488355328) (hbase : base ≤ w.heap.size) :
    ∃ v' w', (Builtin.append_ #[t, t] ty #[.slice (some ⟨g, 0, none⟩) 0 0, v2]).run P w = .ok v' w' ∧ w'.ownsRow base e size v' m ys ∧ w.grownBy w' none := by
  have hown : w.ownsRow base e size (.slice (some ⟨g, 0, none⟩) 0 0) 0 [] := ⟨by simp, .inr ⟨g, 0, #[], rfl, hgb, hg, Nat.le_refl _, by simp [maxLen], by simp, by simp⟩⟩
  subst hsize
  subst hby
  obtain ⟨hl, a, cap, rfl, _, _, h0, hc⟩ := hsl
  cases a with
  | none =>
    have hys : ys = [] := by
      cases ys with
      | nil => rfl
      | cons y r => obtain ⟨g, o, e, _⟩ := hc (by simp); cases e
    subst hys
    have hcap := h0 rfl
    subst hcap
    have hm : m = 0 := by omega
    subst hm
    exact ⟨_, w, run_append_owned_none (P := P) (w := w) base t ty e i i.size ht hi _ 0 [] hown, hown, ⟨rfl, rfl, rfl, Nat.le_refl _, fun _ _ _ => rfl⟩⟩
  | some ad =>
    have hcells : ∀ j u, ys[j]? = some u → w.cell? (ad.add j) = some u := by
      intro j u hj
      have hp : 0 < ys.length := by have := (List.getElem?_eq_some_iff.1 hj).1; omega
      obtain ⟨g, o, e, hc'⟩ := hc hp
      cases e
      rw [Go.WideShapes.add_plain]
      exact hc' j u hj
    by_cases hm : m = 0
    · subst hm
      have hys : ys = [] := List.eq_nil_of_length_eq_zero (by simpa using hl)
      subst hys
      have hr := run_append_room (P := P) w t ty e i ht hi g 0 0 #[] hg ad 0 cap [] (by simp) (by simp) (by simp) (by omega) (by simp)
      have hset := setRow_heap w g #[] (([] : List Value).take (0 * i.size) ++ [] ++ ([] : List Value).drop (0 * i.size + ([] : List Value).length)).toArray e (0, 0) hg
      refine ⟨_, _, hr, ⟨by simp, .inr ⟨g, 0, _, rfl, hgb, hset, Nat.le_refl _, by simp [maxLen], by simp, by simp⟩⟩, ⟨rfl, rfl, rfl, by simp, fun k hk _ => ?_⟩⟩
      by_cases hkg : k = g
      · subst hkg
        rw [hg]
        simpa using hset
      · exact setRow_other w g k _ hkg
    · have hr := run_append_grow (P := P) w t ty e i z ht hi hz ⟨g, 0, none⟩ 0 0 [] (by simp) (by simp) ad m cap ys hl hcells (by omega) (by simp only [maxLen] at h63; omega) (growslice_fits (by omega) (by simpa using hbytes))
      have hge := grownCap_ge w (0 + m) 0 e
      have hcm : grownCap w (0 + m) 0 e ≤ maxLen := grownCap_le_maxLen w (0 + m) 0 e (by omega)
      refine ⟨_, _, hr, ?_, ⟨rfl, rfl, rfl, by simp, fun k hk _ => heap_alloc_old w.drew _ hk⟩⟩
      simp only [Nat.zero_add] at hge hcm ⊢
      refine ⟨hl, .inr ⟨w.heap.size, _, _, rfl, hbase, heap_alloc_new w.drew _, hge, hcm, ?_, ?_⟩⟩
      · simp only [Array.size_append, List.size_toArray, size_zeroCells, hzs, hl, List.length_nil, Nat.zero_add, ← Nat.add_mul]
        congr 1
        omega
      · simp only [Array.toList_append, List.nil_append, List.append_assoc, ← hl]
        exact List.take_left
/-- `append(v, v2...)` onto an empty slice without room: nothing that was there is written. -/
theorem Sh.loud_app0 {α : Type} {P : Program} {o : Oper} {a : Act} {w : World} {R : Value → World → Prop} (s : Sh α) (B : Nat) {e t : TypeId} {z : Value} {by_ : Nat} (hinf : (P.info? e).map (fun i => (i.zero, i.size, i.bytes)) = some (some z, s.sz, by_)) (hz : z.cells.size = s.sz) (ht : P.underlying t = some (.slice e))
    (g : Nat) (v2 : Value) (M : List α) (x y : Operand) (ho : o.op = .call { callee := .builtin .append, args := #[x, y], argTypes := #[t, t] }) (hs : a.eval x = .slice (some ⟨g, 0, none⟩) 0 0) (hx : a.eval y = v2) (hg : w.heap[g]? = some (.cells #[] e (0, 0))) (hgb : B ≤ g) (hsl : s.R w v2 M)
    (hl : M.length * (by_ + 1) ≤ 140737488355328) (hB : B ≤ w.heap.size) (hR : ∀ v' w', s.O w' B e v' M → w.grownBy w' none → R v' w') : Free.Loud P o a w R := by
  obtain ⟨i0, hi, hz0, hz1, hz2⟩ := info_parts hinf
  have h1 : M.length ≤ M.length * (by_ + 1) := Nat.le_mul_of_pos_right _ (by omega)
  have h2 : M.length * by_ ≤ M.length * (by_ + 1) := Nat.mul_le_mul_left _ (by omega)
  obtain ⟨v', w', hr, h3, h4⟩ := run_append_empty (P := P) B t o.type e i0 z s.sz by_ ht hi hz0 hz1 hz2 hz g hg hgb v2 M.length (s.cs M) hsl (Sh.cs_one M) (by unfold maxLen; omega) (by omega) hB
  unfold Free.Loud execOp
  simp only [ho, resolve, invoke, builtin, Sem.run_bind, Sem.run_pure, Result.andThen_ok, List.map_toArray, List.map_cons, List.map_nil, hs, hx, hr]
  exact hR v' w' h3 h4
theorem Sh.loud_app {α : Type} {P : Program} {o : Oper} {a : Act} {w : World} {R : Value → World → Prop} (s : Sh α) (B : Nat) {e t : TypeId} {z : Value} {by_ : Nat} (hinf : (P.info? e).map (fun i => (i.zero, i.size, i.bytes)) = some (some z, s.sz, by_)) (hz : z.cells.size = s.sz) (ht : P.underlying t = some (.slice e))
    (v v2 : Value) (L M : List α) (x y : Operand) (ho : o.op = .call { callee := .builtin .append, args := #[x, y], argTypes := #[t, t] }) (hs : a.eval x = v) (hx : a.eval y = v2) (h : s.O w B e v L) (hsl : s.R w v2 M)
    (hl : (L.length + M.length) * (by_ + 1) ≤ 140737488355328) (hB : B ≤ w.heap.size) (hR : ∀ v' w', s.O w' B e v' (L ++ M) → Grw w w' v v' → R v' w') : Free.Loud P o a w R := by
  obtain ⟨i0, hi, hz0, hz1, hz2⟩ := info_parts hinf
  have h1 : L.length + M.length ≤ (L.length + M.length) * (by_ + 1) := Nat.le_mul_of_pos_right _ (by omega)
  have h2 : (L.length + M.length) * by_ ≤ (L.length + M.length) * (by_ + 1) := Nat.mul_le_mul_left _ (by omega)
  obtain ⟨v', w', hr, h3, h4, _⟩ := run_append_x (P := P) B t o.type e i0 z s.sz by_ ht hi hz0 hz1 hz2 hz s.pos v L.length (s.cs L) h v2 M.length (s.cs M) hsl (Sh.cs_one M) (by unfold maxLen; omega) (by omega) hB
  unfold Free.Loud execOp
  simp only [ho, resolve, invoke, builtin, Sem.run_bind, Sem.run_pure, Result.andThen_ok, List.map_toArray, List.map_cons, List.map_nil, hs, hx, hr]
  refine hR v' w' ?_ h4
  unfold Sh.O
  rw [Sh.cs_append, List.length_append]
  exact h3
theorem Sh.O.keepP {α : Type} {s : Sh α} {w w' : World} {B : Nat} {e : TypeId} {v : Value} {L : List α} {S : Nat → Prop} (h : s.O w B e v L) (hk : Free.KeepsP S w w') (hS : ∀ g, v.ownBlock = some g → ¬ S g) : s.O w' B e v L := by
  refine ⟨h.1, ?_⟩
  rcases h.2 with hn | ⟨g, cap, cur, rfl, hb, hg, rest⟩
  · exact .inl hn
  · exact .inr ⟨g, cap, cur, rfl, hb, (hk.block g (Array.getElem?_eq_some_iff.1 hg).1 (hS g rfl)).trans hg, rest⟩
namespace Ins
variable {α : Type}
/-- What holds behind each operation: 0 makes the empty slice, A appends the first part, M makes the slice of one, A2 appends it, A3 the rest (A3 = A2: there is none). -/
def F (s : Sh α) (A M A2 A3 : Nat) (B0 : Nat) (e : TypeId) (L1 : List α) (x : α) (L2 : List α) (i : Nat) (v : Value) (w : World) : Prop :=
  (i = 0 → ∃ g, v = .slice (some ⟨g, 0, none⟩) 0 0 ∧ B0 ≤ g ∧ w.heap[g]? = some (.cells #[] e (0, 0))) ∧ (i = A → s.O w B0 e v L1) ∧ (i = M → s.R w v [x] ∧ s.O w B0 e v [x]) ∧ (i = A2 → s.O w B0 e v (L1 ++ [x])) ∧ (i = A3 → A3 ≠ A2 → s.O w B0 e v (L1 ++ [x] ++ L2))
def T (A2 A3 B0 : Nat) (k b : Nat) : Prop := (k = A2 ∨ k = A3) ∧ B0 ≤ b
def K (A2 A3 : Nat) (k i : Nat) : Bool := (k == A2 && i != A3 && i != A2) || (k == A3 && i != A3)
theorem keepF {s : Sh α} {A M A2 A3 : Nat} {B0 : Nat} {e : TypeId} {L1 : List α} {x : α} {L2 : List α} {i : Nat} {v : Value} {w w' : World} (h : F s A M A2 A3 B0 e L1 x L2 i v w) (hk : Free.KeepsP (fun _ => False) w w') : F s A M A2 A3 B0 e L1 x L2 i v w' := by
  obtain ⟨h0, h1, h2, h3, h4⟩ := h
  refine ⟨fun hi => ?_, fun hi => (h1 hi).keepP hk (by simp), fun hi => ?_, fun hi => (h3 hi).keepP hk (by simp), fun hi hn => (h4 hi hn).keepP hk (by simp)⟩
  · obtain ⟨g, e1, e2, e3⟩ := h0 hi
    exact ⟨g, e1, e2, (hk.block g (Array.getElem?_eq_some_iff.1 e3).1 (by simp)).trans e3⟩
  · have := (h2 hi).2.keepP hk (by simp)
    exact ⟨this.r, this⟩
theorem stable {s : Sh α} {A M A2 A3 : Nat} {B0 : Nat} {e : TypeId} {L1 : List α} {x : α} {L2 : List α} {ops : Array Oper} {loud : Nat → Bool} (hpre : A3 = A2 ∨ Free.pre ops A2 A3 = true) :
    ∀ i k v w w', loud i = true → i ≠ k → K A2 A3 k i = false → Free.pre ops k i = false → F s A M A2 A3 B0 e L1 x L2 i v w → Free.KeepsP (T A2 A3 B0 k) w w' → F s A M A2 A3 B0 e L1 x L2 i v w' := by
  intro i k v w w' _ hne hK hp hF hk
  by_cases h2 : k = A2
  · subst h2
    by_cases h3 : i = A3
    · subst h3
      rcases hpre with e | e
      · exact absurd e hne
      · rw [hp] at e; cases e
    · exfalso
      unfold K at hK
      simp only [beq_self_eq_true, Bool.true_and, Bool.or_eq_false_iff] at hK
      have h4 := hK.1
      simp [h3, hne] at h4
  · by_cases h3 : k = A3
    · subst h3
      exfalso
      unfold K at hK
      simp [hne] at hK
    · exact keepF hF (hk.mono (fun b hb => by rcases hb.1 with e | e; exact h2 e; exact h3 e))
def Nums (A M A2 A3 : Nat) : Prop := A ≠ 0 ∧ M ≠ 0 ∧ A2 ≠ 0 ∧ A3 ≠ 0 ∧ A ≠ M ∧ A ≠ A2 ∧ A ≠ A3 ∧ M ≠ A2 ∧ M ≠ A3
theorem R_keepP {s : Sh α} {w w' : World} {v : Value} {L : List α} {S : Nat → Prop} (h : s.R w v L) (hk : Free.KeepsP S w w') (hS : ∀ b, S b → w.heap.size ≤ b) : s.R w' v L :=
  Sl.keep h fun b o hb => .inl (hk.cell b o hb (fun h => by have := hS b h; omega))
theorem O_le {s : Sh α} {w : World} {B B' e : Nat} {v : Value} {L : List α} (h : s.O w B e v L) (hb : B' ≤ B) : s.O w B' e v L := by
  refine ⟨h.1, ?_⟩
  rcases h.2 with hn | ⟨g, cap, cur, rfl, h1, rest⟩
  · exact .inl hn
  · exact .inr ⟨g, cap, cur, rfl, Nat.le_trans hb h1, rest⟩
theorem fE {s : Sh α} {A M A2 A3 : Nat} {B0 : Nat} {e : TypeId} {L1 : List α} {x : α} {L2 : List α} (hn : Nums A M A2 A3) {w : World} (hw : B0 ≤ w.heap.size) : F s A M A2 A3 B0 e L1 x L2 0 (.slice (some ⟨w.heap.size, 0, none⟩) 0 0) (w.alloc (.cells #[] e)) ∧ Free.KeepsP (T A2 A3 B0 0) w (w.alloc (.cells #[] e)) := by
  obtain ⟨h1, h2, h3, h4, _⟩ := hn
  exact ⟨⟨fun _ => ⟨_, rfl, hw, heap_alloc_new w _⟩, fun h => absurd h.symm h1, fun h => absurd h.symm h2, fun h => absurd h.symm h3, fun h => absurd h.symm h4⟩, Free.KeepsP.alloc _ _ _⟩
theorem fM {s : Sh α} {A M A2 A3 : Nat} {B0 : Nat} {e : TypeId} {L1 : List α} {x : α} {L2 : List α} (hn : Nums A M A2 A3) {w : World} (hw : B0 ≤ w.heap.size) (xs : Array Value) (hx : xs.toList = s.cf x) : F s A M A2 A3 B0 e L1 x L2 M (.slice (some ⟨w.heap.size, 0, none⟩) 1 1) (w.alloc (.cells xs e)) ∧ Free.KeepsP (T A2 A3 B0 M) w (w.alloc (.cells xs e)) := by
  obtain ⟨h1, h2, h3, h4, h5, h6, h7, h8, h9⟩ := hn
  have hl : xs.size = s.sz := by rw [← Array.length_toList, hx]; exact s.len x
  have hO : s.O (w.alloc (.cells xs e)) B0 e (.slice (some ⟨w.heap.size, 0, none⟩) 1 1) [x] := by
    refine ⟨by simp [Sh.cs, s.len], .inr ⟨w.heap.size, 1, xs, rfl, hw, heap_alloc_new w _, Nat.le_refl _, by simp [maxLen], by simpa using hl, ?_⟩⟩
    rw [List.take_of_length_le (by simp [hl]), hx]
    simp [Sh.cs]
  exact ⟨⟨fun h => absurd h h2, fun h => absurd h.symm h5, fun _ => ⟨hO.r, hO⟩, fun h => absurd h h8, fun h => absurd h h9⟩, Free.KeepsP.alloc _ _ _⟩
section
variable {P : Program} {o : Oper} {a : Act} {w w0 : World} {s : Sh α} {A M A2 A3 : Nat} {e t : TypeId} {L1 : List α} {x : α} {L2 : List α} {z : Value} {by_ : Nat}
theorem lA {S : Nat → Prop} (hn : Nums A M A2 A3) (hinf : (P.info? e).map (fun i => (i.zero, i.size, i.bytes)) = some (some z, s.sz, by_)) (hz : z.cells.size = s.sz) (ht : P.underlying t = some (.slice e)) {v0 v2 : Value} (hk : Free.KeepsP S w0 w) (hS : ∀ b, S b → w0.heap.size ≤ b) (h0 : F s A M A2 A3 w0.heap.size e L1 x L2 0 v0 w) (hR : s.R w0 v2 L1) (p q : Operand)
    (ho : o.op = .call { callee := .builtin .append, args := #[p, q], argTypes := #[t, t] }) (hs : a.eval p = v0) (hx : a.eval q = v2) (hl : L1.length * (by_ + 1) ≤ 140737488355328) : Free.Loud P o a w (fun v w' => F s A M A2 A3 w0.heap.size e L1 x L2 A v w' ∧ Free.KeepsP (T A2 A3 w0.heap.size A) w w') := by
  obtain ⟨h1, h2, h3, h4, h5, h6, h7, h8, h9⟩ := hn
  obtain ⟨g, rfl, hg0, hgc⟩ := h0.1 rfl
  refine Sh.loud_app0 s w0.heap.size hinf hz ht g v2 L1 p q ho hs hx hgc hg0 (R_keepP hR hk hS) hl hk.size ?_
  intro v' w' hO hgr
  exact ⟨⟨fun h => absurd h h1, fun _ => hO, fun h => absurd h h5, fun h => absurd h h6, fun h => absurd h h7⟩, Free.KeepsP.grown hgr (by simp)⟩
theorem lA2 {S : Nat → Prop} (hn : Nums A M A2 A3) (hinf : (P.info? e).map (fun i => (i.zero, i.size, i.bytes)) = some (some z, s.sz, by_)) (hz : z.cells.size = s.sz) (ht : P.underlying t = some (.slice e)) {vA vM : Value} (hk : Free.KeepsP S w0 w) (hA : F s A M A2 A3 w0.heap.size e L1 x L2 A vA w) (hM : F s A M A2 A3 w0.heap.size e L1 x L2 M vM w) (p q : Operand)
    (ho : o.op = .call { callee := .builtin .append, args := #[p, q], argTypes := #[t, t] }) (hs : a.eval p = vA) (hx : a.eval q = vM) (hl : (L1.length + 1) * (by_ + 1) ≤ 140737488355328) : Free.Loud P o a w (fun v w' => F s A M A2 A3 w0.heap.size e L1 x L2 A2 v w' ∧ Free.KeepsP (T A2 A3 w0.heap.size A2) w w') := by
  obtain ⟨h1, h2, h3, h4, h5, h6, h7, h8, h9⟩ := hn
  have hOA := hA.2.1 rfl
  refine Sh.loud_app s w0.heap.size hinf hz ht vA vM L1 [x] p q ho hs hx hOA (hM.2.2.1 rfl).1 hl hk.size ?_
  intro v' w' hO hgr
  exact ⟨⟨fun h => absurd h h3, fun h => absurd h.symm h6, fun h => absurd h.symm h8, fun _ => hO, fun h hne => absurd h.symm hne⟩, Free.KeepsP.grown hgr.grown (fun b hb => ⟨.inl rfl, hOA.ge b hb⟩)⟩
theorem lA3 {S : Nat → Prop} (hn : Nums A M A2 A3) (h23 : A3 ≠ A2) (hinf : (P.info? e).map (fun i => (i.zero, i.size, i.bytes)) = some (some z, s.sz, by_)) (hz : z.cells.size = s.sz) (ht : P.underlying t = some (.slice e)) {vA v2 : Value} (hk : Free.KeepsP S w0 w) (hS : ∀ b, S b → w0.heap.size ≤ b) (hA : F s A M A2 A3 w0.heap.size e L1 x L2 A2 vA w) (hR : s.R w0 v2 L2) (p q : Operand)
    (ho : o.op = .call { callee := .builtin .append, args := #[p, q], argTypes := #[t, t] }) (hs : a.eval p = vA) (hx : a.eval q = v2) (hl : (L1.length + 1 + L2.length) * (by_ + 1) ≤ 140737488355328) : Free.Loud P o a w (fun v w' => F s A M A2 A3 w0.heap.size e L1 x L2 A3 v w' ∧ Free.KeepsP (T A2 A3 w0.heap.size A3) w w') := by
  obtain ⟨h1, h2, h3, h4, h5, h6, h7, h8, h9⟩ := hn
  have hOA := hA.2.2.2.1 rfl
  refine Sh.loud_app s w0.heap.size hinf hz ht vA v2 (L1 ++ [x]) L2 p q ho hs hx hOA (R_keepP hR hk hS) (by rw [List.length_append, List.length_singleton]; exact hl) hk.size ?_
  intro v' w' hO hgr
  exact ⟨⟨fun h => absurd h h4, fun h => absurd h.symm h7, fun h => absurd h.symm h9, fun h => absurd h h23, fun _ _ => hO⟩, Free.KeepsP.grown hgr.grown (fun b hb => ⟨.inr rfl, hOA.ge b hb⟩)⟩
end
theorem low {ops : Array Oper} {A2 A3 B0 i b : Nat} (h : Free.sx ops (T A2 A3 B0) i b) : B0 ≤ b := by obtain ⟨k, _, _, h⟩ := h; exact h.2
theorem lowA {A2 A3 B0 b : Nat} (h : Free.sa (T A2 A3 B0) b) : B0 ≤ b := by obtain ⟨k, h⟩ := h; exact h.2
end Ins
end Go.Proofs.YthfdngjbcgkkfaaGreat

namespace Go.Proofs.YthfdngjbcgkkfaaGreat
open Go.RowKit

theorem LRd.ins {w : World} {X : List AnV} {Y : List Ans} {x : AnV} {y : Ans} (h : LRd w X Y) (hx : InR w x y) (k : Nat) : LRd w (X.take k ++ [x] ++ X.drop k) (Y.take k ++ y :: Y.drop k) := by
  obtain ⟨hl, hh⟩ := h
  refine ⟨by simp; omega, fun j a b ha hb => ?_⟩
  rw [List.append_assoc, List.singleton_append] at ha
  have htl : (X.take k).length = (Y.take k).length := by simp [hl]
  by_cases h1 : j < (X.take k).length
  · rw [List.getElem?_append_left h1] at ha
    rw [List.getElem?_append_left (by omega)] at hb
    rw [List.getElem?_take] at ha hb
    split at ha
    · rename_i hjk
      rw [if_pos hjk] at hb
      exact hh j a b ha hb
    · cases ha
  · rw [List.getElem?_append_right (by omega)] at ha
    rw [List.getElem?_append_right (by omega)] at hb
    rw [← htl] at hb
    obtain ⟨i, hi⟩ : ∃ i, j - (X.take k).length = i := ⟨_, rfl⟩
    rw [hi] at ha hb
    cases i with
    | zero => simp at ha hb; subst ha hb; exact hx
    | succ i =>
      simp only [List.getElem?_cons_succ, List.getElem?_drop] at ha hb
      exact hh _ a b ha hb
theorem insO_len (l : List Ans) (p : Qn × Option Ans) : (insO l p).length ≤ l.length + 1 := by
  unfold insO
  split
  · rw [(insA_perm _ _).length_eq]; simp
  · omega
def SortPost (w : World) (t : Tr) (e : Ending) (w' : World) : Prop := ∃ v, e = .returned v ∧ RdA w' v (srtOf t.qs) ∧ Keeps [] w w'
set_option maxRecDepth 100000 in
set_option maxHeartbeats 20000000 in
theorem sortedR_c (w : World) (x : RfV) (t : Tr) (h : RfR w x t) (hr : ∀ p ∈ t.rec', p.2.kn = true) (hl : t.qs.length ≤ 1000) :
    Calls Tryz.prog 46 #[rfV x] w (SortPost w t) := by
  have hans := fun (W : World) (hk : Keeps [] w W) (k : Nat) (hkq : k < t.qs.length) => answeredR_c W x t k (h.keeps hk) hr hkq
  obtain ⟨XA, hXA, hXR⟩ := h.an
  have hO := h.op
  obtain ⟨x0, x1, x2, x3, x4, x5, ⟨x6, x7, x8⟩, ⟨x9, x10, x11⟩, x12, ⟨x13, x14, x15⟩, x16, ⟨x17, x18, x19⟩⟩ := x
  simp only [slv, rfV] at hXA hans hO
  have hx7 : t.qs.length = x7 := by
    obtain ⟨_, _, e, _⟩ := hO.form
    simp only [Value.slice.injEq] at e
    rw [e.2.1]; simp [Tr.op]
  have hx10 : XA.length = x10 := by
    obtain ⟨_, _, e, _⟩ := hXA.form
    simp only [Value.slice.injEq] at e
    exact e.2.1.symm
  have hx1010 : x7 = x10 := by rw [← hx10, hXR.1, hx7]
  subst hx1010
  rw [hx7] at hl
  have hel := fun k hk => hXA.elem (k := k) hk
  have hb0 := ((Keeps.refl [] (w.alloc (.cells #[.int .i64 x0, .int .i64 x1, .int .i64 x2, .int .u64 x3, .int .i64 x4, .int .i64 x5, .slice x6 x7 x8, .slice x9 x7 x11, .int .i64 x12, .slice x13 x14 x15, .bool x16, .slice x17 x18 x19] tR))).alloc (.cells #[] tA)).block _ (by simp) (by simp) |>.trans (heap_alloc_new w (.cells #[.int .i64 x0, .int .i64 x1, .int .i64 x2, .int .u64 x3, .int .i64 x4, .int .i64 x5, .slice x6 x7 x8, .slice x9 x7 x11, .int .i64 x12, .slice x13 x14 x15, .bool x16, .slice x17 x18 x19] tR))
  have hkA : Keeps [] w ((w.alloc (.cells #[.int .i64 x0, .int .i64 x1, .int .i64 x2, .int .u64 x3, .int .i64 x4, .int .i64 x5, .slice x6 x7 x8, .slice x9 x7 x11, .int .i64 x12, .slice x13 x14 x15, .bool x16, .slice x17 x18 x19] tR)).alloc (.cells #[] tA)) := ((Keeps.refl _ _).alloc _).alloc _
  have hfr := Sh.O.fresh shA (w.alloc (.cells #[.int .i64 x0, .int .i64 x1, .int .i64 x2, .int .u64 x3, .int .i64 x4, .int .i64 x5, .slice x6 x7 x8, .slice x9 x7 x11, .int .i64 x12, .slice x13 x14 x15, .bool x16, .slice x17 x18 x19] tR)) w.heap.size tA (by simp)
  rw [show (w.alloc (.cells #[.int .i64 x0, .int .i64 x1, .int .i64 x2, .int .u64 x3, .int .i64 x4, .int .i64 x5, .slice x6 x7 x8, .slice x9 x7 x11, .int .i64 x12, .slice x13 x14 x15, .bool x16, .slice x17 x18 x19] tR)).heap.size = w.heap.size + 1 by simp] at hfr
  replace h := Lib.hid h
  replace hkA := Lib.hid hkA
  replace hb0 := Lib.hid hb0
  replace hfr := Lib.hid hfr
  replace hel := Lib.hid hel
  replace hans := Lib.hid hans
  replace hx7 := Lib.hid hx7
  replace hx10 := Lib.hid hx10
  replace hO := Lib.hid hO
  replace hXA := Lib.hid hXA
  replace hXR := Lib.hid hXR
  clear hr
  simp only [rfV, slv]
  go_enter Tryz.func46, Tryz.ntmps46
  go_wp2
  generalize ((w.alloc (.cells #[.int .i64 x0, .int .i64 x1, .int .i64 x2, .int .u64 x3, .int .i64 x4, .int .i64 x5, .slice x6 x7 x8, .slice x9 x7 x11, .int .i64 x12, .slice x13 x14 x15, .bool x16, .slice x17 x18 x19] tR)).alloc (.cells #[] tA)) = W at *
  go_loopw [3, 4] (fun ov i wr => ∃ (k : Nat) (X : List AnV), i = .int .i64 k ∧ k ≤ x7 ∧ Hid (shA.O wr w.heap.size tA ov X) ∧ Hid (LRd wr X ((t.qs.take k).foldl insO [])) ∧ Hid (Keeps [] w wr) ∧ Hid (wr.heap[w.heap.size]? = some (.cells #[.int .i64 x0, .int .i64 x1, .int .i64 x2, .int .u64 x3, .int .i64 x4, .int .i64 x5, .slice x6 x7 x8, .slice x9 x7 x11, .int .i64 x12, .slice x13 x14 x15, .bool x16, .slice x17 x18 x19] tR))) (fun _ i _ => x7 - (intOf i).toNat)
  case atStart => exact ⟨0, [], rfl, by omega, hfr, Lib.hid ⟨rfl, fun k x y h => by simp at h⟩, hkA, hb0⟩
  case round =>
    obtain ⟨k, X, rfl, hk, hOr, hLr, hkr, hbx⟩ := hrel
    obtain ⟨y0, y1, y2, y3, y4, y5, y6, y7, y8, y9, y10, y11, yf, yl⟩ := cells12 hbx.out
    by_cases hlt : k < x7
    · have hkq : k < t.qs.length := by rw [hx7.out]; exact hlt
      have hkX : k < XA.length := by rw [hx10.out]; exact hlt
      have hfold : (t.qs.take (k + 1)).foldl insO [] = insO ((t.qs.take k).foldl insO []) t.qs[k] := by rw [List.take_succ_eq_append_getElem hkq, List.foldl_append]; rfl
      have hYl : ((t.qs.take k).foldl insO []).length ≤ 1000 := by
        have : ∀ (l : List (Qn × Option Ans)) (a : List Ans), (l.foldl insO a).length ≤ a.length + l.length := by
          intro l
          induction l with
          | nil => intro a; simp
          | cons p l ih => intro a; rw [List.foldl_cons]; have := ih (insO a p); have := insO_len a p; simp; omega
        have := this (t.qs.take k) []
        simp at this
        omega
      have hra := hXR.out.2 k _ _ (List.getElem?_eq_getElem hkX) (List.getElem?_eq_getElem hkq)
      obtain ⟨⟨pq, pu⟩, hp⟩ : ∃ p, t.qs[k] = p := ⟨_, rfl⟩
      rw [hp] at hfold hra
      obtain ⟨Y, hY⟩ : ∃ Y, (t.qs.take k).foldl insO [] = Y := ⟨_, rfl⟩
      rw [hY] at hfold hYl hLr
      have hac := hans.out wr hkr.out k hkq
      rw [hp] at hac
      replace hac := Lib.hid hac
      replace hp := Lib.hid hp
      replace hY := Lib.hid hY
      cases pu with
      | none =>
        have hf2 : (t.qs.take (k + 1)).foldl insO [] = Y := by rw [hfold]; rfl
        replace hf2 := Lib.hid hf2
        clear hfold hra
        go_wp2_with fail
        refine hac.out.mono ?_
        rintro e w1 ⟨rfl, hka⟩
        have hO1 := Lib.hid (hOr.out.keeps hka)
        have hL1 : Hid (LRd w1 X ((t.qs.take (k + 1)).foldl insO [])) := Lib.hid (by rw [hf2.out]; exact hLr.out.keeps hka)
        have hk1 := Lib.hid (hkr.out.trans hka)
        have hbx1 := Lib.hid ((hka.block _ (lt_of_blk hbx.out) (by simp)).trans hbx.out)
        clear hka
        go_wp2
        go_roundw
        case rel => exact ⟨k + 1, X, rfl, by omega, hO1, hL1, hk1, hbx1⟩
        case measure => simp [intOf]; omega
      | some a =>
        have hfold2 : (t.qs.take (k + 1)).foldl insO [] = insA a Y := by rw [hfold]; rfl
        have hxr : InR w XA[k] a := InA.r hra
        have hXl := hLr.out.1
        obtain ⟨oa, oc, rfl⟩ := hOr.out.form
        obtain ⟨N, hN⟩ : ∃ n, X.length = n := ⟨_, rfl⟩
        rw [hN] at hOr hXl ⊢
        have hN1 : N ≤ 1000 := by omega
        obtain ⟨g, o, c', hv, he⟩ := hel.out k hkX
        rw [hx10.out] at hv
        cases hv
        obtain ⟨xa, hxa⟩ : ∃ x, XA[k] = x := ⟨_, rfl⟩
        rw [hxa] at hxr he
        obtain ⟨y0, y1, y2, y3, y4, y5, y6, y7, y8, y9⟩ := xa
        replace hfold := Lib.hid hfold2
        replace hxr := Lib.hid hxr
        replace hN := Lib.hid hN
        replace hxa := Lib.hid hxa
        replace hXl := Lib.hid hXl
        replace he := Lib.hid he
        clear hfold2 hra
        go_wp2_with fail
        refine hac.out.mono ?_
        rintro e w1 ⟨rfl, hka⟩
        have hO1 := hOr.out.keeps hka
        have hL1 := hLr.out.keeps hka
        have hk1 := hkr.out.trans hka
        have hbx1 := (hka.block _ (lt_of_blk hbx.out) (by simp)).trans hbx.out
        have e0 := hk1.val (he.out 0 _ rfl)
        have e1 := hk1.val (he.out 1 _ rfl)
        have e2 := hk1.val (he.out 2 _ rfl)
        have e3 := hk1.val (he.out 3 _ rfl)
        have e4 := hk1.val (he.out 4 _ rfl)
        have e5 := hk1.val (he.out 5 _ rfl)
        have e6 := hk1.val (he.out 6 _ rfl)
        have e7 := hk1.val (he.out 7 _ rfl)
        simp only [shA, AnV.v, Nat.add_zero] at e0 e1 e2 e3 e4 e5 e6 e7
        have z7 := (cells12 hbx1).2.2.2.2.2.2.2.1
        have hxq : AnV.q ⟨y0, y1, y2, y3, y4, y5, y6, y7, y8, y9⟩ = a.q := by
          have hm := hxr.out.m
          have hw := hxr.out.ow
          have hn := hxr.out.n
          unfold AnV.q Ans.q
          simp only at hm hw hn ⊢
          rw [hm, hw, hn]
        replace hO1 := Lib.hid hO1
        replace hL1 := Lib.hid hL1
        replace hk1 := Lib.hid hk1
        replace hbx1 := Lib.hid hbx1
        replace hxq := Lib.hid hxq
        clear hka hac
        (go_upto_region 6 with fail; iterate 8 go_step)
        go_cut [5] from 7 to 51 (fun kv wx => ∃ kk : Nat, kv = .int .i64 kk ∧ kk ≤ N ∧ Hid (∀ j (hj : j < Y.length), j < kk → qlt Y[j].q a.q) ∧ Hid (∀ hj : kk < Y.length, ¬ qlt Y[kk].q a.q) ∧ Hid (Keeps [] w1 wx))
        case first =>
          go_wp2
          go_loopw [5] (fun i wr => ∃ j : Nat, i = .int .i64 j ∧ j ≤ N ∧ Hid (∀ i (hi : i < Y.length), i < j → qlt Y[i].q a.q) ∧ Hid (Keeps [] w1 wr)) (fun i _ => N - (intOf i).toNat)
          case atStart => exact ⟨0, rfl, by omega, Lib.hid (fun _ _ h => by omega), Lib.hid (Keeps.refl _ _)⟩
          case round =>
            obtain ⟨j, rfl, hj, hlow, hkj⟩ := hrel
            by_cases hltj : j < N
            · have hjX : j < X.length := by rw [hN.out]; exact hltj
              have hjY : j < Y.length := by rw [← hXl.out]; exact hltj
              obtain ⟨g3, o3, c3, hv3, he3⟩ := (hO1.out.keeps hkj.out).r.elem hjX
              rw [hN.out] at hv3
              cases hv3
              have hjr := (hL1.out.keeps hkj.out).2 j _ _ (List.getElem?_eq_getElem hjX) (List.getElem?_eq_getElem hjY)
              have hjq : (X[j]).q = Y[j].q := by
                have hm := hjr.m
                have hw := hjr.ow
                have hn := hjr.n
                unfold AnV.q Ans.q
                rw [hm, hw, hn]
              obtain ⟨u, hu⟩ : ∃ u, X[j] = u := ⟨_, rfl⟩
              rw [hu] at he3 hjq
              obtain ⟨u0, u1, u2, u3, u4, u5, u6, u7, u8, u9⟩ := u
              have f0 := he3 0 _ rfl
              have f1 := he3 1 _ rfl
              have f2 := he3 2 _ rfl
              have f3 := he3 3 _ rfl
              have f4 := he3 4 _ rfl
              have f5 := he3 5 _ rfl
              have f6 := he3 6 _ rfl
              have f7 := he3 7 _ rfl
              simp only [shA, AnV.v, Nat.add_zero] at f0 f1 f2 f3 f4 f5 f6 f7
              have d0 := hkj.out.val e0
              have d1 := hkj.out.val e1
              have d2 := hkj.out.val e2
              have d3 := hkj.out.val e3
              have d4 := hkj.out.val e4
              have d5 := hkj.out.val e5
              have d6 := hkj.out.val e6
              have d7 := hkj.out.val e7
              have x7j := hkj.out.val z7
              have hlc := fun w => lessR_c w ⟨u0, u1, u2, u3, u4, u5, u6, u7, u8, u9⟩ ⟨y0, y1, y2, y3, y4, y5, y6, y7, y8, y9⟩
              rw [hjq, hxq.out] at hlc
              simp only [aV, AnV.v] at hlc
              obtain ⟨b, hb⟩ : ∃ b, decide (qlt Y[j].q a.q) = b := ⟨_, rfl⟩
              rw [hb] at hlc
              replace hlc := Lib.hid hlc
              replace hu := Lib.hid hu
              replace hb := Lib.hid hb
              replace hjq := Lib.hid hjq
              clear he3 hjr
              go_wp2
              refine Free.wp_region_chain (fun i => i == 14) (fun i => true) (fun _ _ => False) (by kernel_rfl) (by kernel_rfl) (by kernel_rfl) ?_
              (repeat (first | (apply Free.cw_pureW rfl rfl; (intro w'; go_simp <;> exact rfl); go_frame) | (apply Free.cw_steadyW rfl rfl rfl; (intro w' hS; have q0 := Free.sx_cell hS f0 (fun _ _ hT => hT); have q1 := Free.sx_cell hS f1 (fun _ _ hT => hT); have q2 := Free.sx_cell hS f2 (fun _ _ hT => hT); have q3 := Free.sx_cell hS f3 (fun _ _ hT => hT); have q4 := Free.sx_cell hS f4 (fun _ _ hT => hT); have q5 := Free.sx_cell hS f5 (fun _ _ hT => hT); have q6 := Free.sx_cell hS f6 (fun _ _ hT => hT); have q7 := Free.sx_cell hS f7 (fun _ _ hT => hT); have q8 := Free.sx_cell hS x7j (fun _ _ hT => hT); have q9 := Free.sx_cell hS d0 (fun _ _ hT => hT); have q10 := Free.sx_cell hS d1 (fun _ _ hT => hT); have q11 := Free.sx_cell hS d2 (fun _ _ hT => hT); have q12 := Free.sx_cell hS d3 (fun _ _ hT => hT); have q13 := Free.sx_cell hS d4 (fun _ _ hT => hT); have q14 := Free.sx_cell hS d5 (fun _ _ hT => hT); have q15 := Free.sx_cell hS d6 (fun _ _ hT => hT); have q16 := Free.sx_cell hS d7 (fun _ _ hT => hT); go_simp <;> exact rfl); go_frame) | (refine Free.cw_skip rfl ?_; go_frame)))
              refine Free.cw_loudW rfl rfl (fun K hK => ?_)
              go_wp2_with fail
              refine (hlc.out _).mono ?_
              rintro e w5 ⟨rfl, hk5⟩
              refine hK _ _ rfl (Free.KeepsP.of hk5 (by simp)) ?_
              clear hK K hlc
              (repeat (apply Free.cw_pureW rfl rfl; (intro w'; go_simp <;> exact rfl); go_frame))
              refine Free.cw_nil ?_
              have hkj5 := Lib.hid (hkj.out.trans (((Keeps.refl [] wr).drew).trans hk5))
              clear hk5
              cases b with
              | true =>
                have hlow2 : ∀ i (hi : i < Y.length), i < j + 1 → qlt Y[i].q a.q := fun i hi hij => by
                  by_cases e : i = j
                  · subst e; exact of_decide_eq_true hb.out
                  · exact hlow.out i hi (by omega)
                replace hlow2 := Lib.hid hlow2
                go_wp2
                go_roundw
                case rel => exact ⟨j + 1, rfl, by omega, hlow2, hkj5⟩
                case measure => simp [intOf]; omega
              | false =>
                have hst : Hid (∀ hj : j < Y.length, ¬ qlt Y[j].q a.q) := Lib.hid (fun _ => of_decide_eq_false hb.out)
                go_wp2
                go_meet
                case rel => exact ⟨j, rfl, by omega, hlow, hst, hkj5⟩
            · have hst : Hid (∀ hj : j < Y.length, ¬ qlt Y[j].q a.q) := Lib.hid (fun hj => absurd hj (by rw [← hXl.out]; exact hltj))
              have hdf : decide ((j : Int) < (N : Int)) = false := by simp; omega
              go_wp2
              refine Free.wp_region_chain (fun i => i == 14) (fun i => true) (fun _ _ => False) (by kernel_rfl) (by kernel_rfl) (by kernel_rfl) ?_
              (repeat (first | (apply Free.cw_pureW rfl rfl; (intro w'; go_simp <;> exact rfl); go_frame) | (apply Free.cw_steadyW rfl rfl rfl; (intro w' hS; have q0 := Free.sx_cell hS z7 (fun _ _ hT => hT); go_simp <;> exact rfl); go_frame) | (refine Free.cw_skip rfl ?_; go_frame)))
              refine Free.cw_nil ?_
              go_wp2
              go_meet
              case rel => exact ⟨j, rfl, by omega, hlow, hst, Lib.hid hkj.out.drew⟩
        case rest =>
          obtain ⟨kk, rfl, hkk, hlow, hst, hkc1⟩ := hcut
          have hins : insA a Y = Y.take kk ++ a :: Y.drop kk := insA_at a Y kk (by rw [← hXl.out]; exact hkk) hlow.out hst.out
          have hkc := hk1.out.trans hkc1.out
          have hOc := hO1.out.keeps hkc1.out
          have hLc := hL1.out.keeps hkc1.out
          have hbxc := (hkc1.out.block _ (lt_of_blk hbx1.out) (by simp)).trans hbx1.out
          replace e0 := hkc1.out.val e0
          replace e1 := hkc1.out.val e1
          replace e2 := hkc1.out.val e2
          replace e3 := hkc1.out.val e3
          replace e4 := hkc1.out.val e4
          replace e5 := hkc1.out.val e5
          replace e6 := hkc1.out.val e6
          replace e7 := hkc1.out.val e7
          replace z7 := hkc1.out.val z7
          have hwcs : w.heap.size ≤ wc.drew.heap.size := hkc.size
          obtain ⟨_, _, ev, hNc, hoc, _⟩ := hOc.r.form
          rw [hN.out] at ev hNc
          simp only [Value.slice.injEq] at ev
          have hNc2 : N ≤ oc := by rw [ev.2.2]; exact hNc
          have hoc2 : oc ≤ 9223372036854775807 := by rw [ev.2.2]; unfold maxLen at hoc; omega
          clear ev hNc hoc
          have hT1 := hOc.r.init' kk (by rw [hN.out]; exact hkk)
          have hT2 := hOc.r.tail' kk (by rw [hN.out]; exact hkk)
          rw [hN.out] at hT2
          replace hT2 : shA.R wc (.slice (if oc = kk then oa else oa.map (·.add (kk * 8))) (N - kk) (oc - kk)) (X.drop kk) := hT2
          have f1 : (0 : Int) ≤ (kk : Int) := by omega
          have f2 : (kk : Int) ≤ (oc : Int) := by omega
          have f3 : (kk : Int) ≤ (N : Int) := by omega
          have hlt1 : (X.take kk).length ≤ 1000 := by rw [List.length_take, hN.out]; omega
          have hlt2 : (X.drop kk).length ≤ 1000 := by rw [List.length_drop, hN.out]; omega
          replace hins := Lib.hid hins
          replace hkc := Lib.hid hkc
          replace hOc := Lib.hid hOc
          replace hLc := Lib.hid hLc
          replace hbxc := Lib.hid hbxc
          replace hT1 := Lib.hid hT1
          replace hT2 := Lib.hid hT2
          replace hlt1 := Lib.hid hlt1
          replace hlt2 := Lib.hid hlt2
          clear hkc1 hlow hst
          go_wp2
          have hn : Ins.Nums 4 10 11 15 := by unfold Ins.Nums; decide
          refine Free.wp_region_free (by kernel_rfl) (by kernel_rfl) (fun i => i == 0 || i == 4 || i == 10 || i == 11 || i == 15) (Ins.F shA 4 10 11 15 wc.drew.heap.size tA (X.take kk) (⟨y0, y1, y2, y3, y4, y5, y6, y7, y8, y9⟩ : AnV) (X.drop kk)) (Ins.T 11 15 wc.drew.heap.size) (Ins.K 11 15) (Ins.stable (.inr (by kernel_rfl))) ?_
          apply Free.walk_loud rfl rfl
          · intro w' hg hf; clear hf
            have hwB := hg.size
            go_simp
            exact Ins.fE hn hwB
          intro v0
          (apply Free.walk_quiet rfl rfl; (intro w' hg hf; clear hf; go_simp <;> exact rfl))
          (apply Free.walk_quiet rfl rfl; (intro w' hg hf; clear hf; go_simp <;> exact rfl))
          (apply Free.walk_quiet rfl rfl; (intro w' hg hf; clear hf; go_simp <;> exact rfl))
          apply Free.walk_loud rfl rfl
          · intro w' hg hf
            have hF0 : Ins.F shA 4 10 11 15 wc.drew.heap.size tA (X.take kk) (⟨y0, y1, y2, y3, y4, y5, y6, y7, y8, y9⟩ : AnV) (X.drop kk) 0 v0 w' := by simpa using hf 0 (by decide) (by kernel_rfl)
            clear hf
            exact Ins.lA hn infoA rfl Tryz.underlying33 hg (fun b h => Ins.low h) hF0 (hT1.out.keeps (Keeps.refl [] wc).drew) _ _ rfl (by simp [Act.eval, Act.put]) (by simp [Act.eval, Act.put]) (by have := hlt1.out; omega)
          intro v4
          (apply Free.walk_quiet rfl rfl; (intro w' hg hf; clear hf; go_simp <;> exact rfl))
          apply Free.walk_quiet rfl rfl
          · intro w' hg hf; clear hf
            have r0 := (hg.cell _ _ (lt_of_cell z7) (fun h => Nat.not_le_of_lt (lt_of_cell z7) (Ins.low h))).trans z7
            have r1 := (hg.cell _ _ (lt_of_cell e0) (fun h => Nat.not_le_of_lt (lt_of_cell e0) (Ins.low h))).trans e0
            have r2 := (hg.cell _ _ (lt_of_cell e1) (fun h => Nat.not_le_of_lt (lt_of_cell e1) (Ins.low h))).trans e1
            have r3 := (hg.cell _ _ (lt_of_cell e2) (fun h => Nat.not_le_of_lt (lt_of_cell e2) (Ins.low h))).trans e2
            have r4 := (hg.cell _ _ (lt_of_cell e3) (fun h => Nat.not_le_of_lt (lt_of_cell e3) (Ins.low h))).trans e3
            have r5 := (hg.cell _ _ (lt_of_cell e4) (fun h => Nat.not_le_of_lt (lt_of_cell e4) (Ins.low h))).trans e4
            have r6 := (hg.cell _ _ (lt_of_cell e5) (fun h => Nat.not_le_of_lt (lt_of_cell e5) (Ins.low h))).trans e5
            have r7 := (hg.cell _ _ (lt_of_cell e6) (fun h => Nat.not_le_of_lt (lt_of_cell e6) (Ins.low h))).trans e6
            have r8 := (hg.cell _ _ (lt_of_cell e7) (fun h => Nat.not_le_of_lt (lt_of_cell e7) (Ins.low h))).trans e7
            go_simp <;> exact rfl
          (apply Free.walk_quiet rfl rfl; (intro w' hg hf; clear hf; go_simp <;> exact rfl))
          (apply Free.walk_quiet rfl rfl; (intro w' hg hf; clear hf; go_simp <;> exact rfl))
          apply Free.walk_quiet rfl rfl
          · intro w' hg hf; clear hf
            have r0 := (hg.cell _ _ (lt_of_cell z7) (fun h => Nat.not_le_of_lt (lt_of_cell z7) (Ins.low h))).trans z7
            have r1 := (hg.cell _ _ (lt_of_cell e0) (fun h => Nat.not_le_of_lt (lt_of_cell e0) (Ins.low h))).trans e0
            have r2 := (hg.cell _ _ (lt_of_cell e1) (fun h => Nat.not_le_of_lt (lt_of_cell e1) (Ins.low h))).trans e1
            have r3 := (hg.cell _ _ (lt_of_cell e2) (fun h => Nat.not_le_of_lt (lt_of_cell e2) (Ins.low h))).trans e2
            have r4 := (hg.cell _ _ (lt_of_cell e3) (fun h => Nat.not_le_of_lt (lt_of_cell e3) (Ins.low h))).trans e3
            have r5 := (hg.cell _ _ (lt_of_cell e4) (fun h => Nat.not_le_of_lt (lt_of_cell e4) (Ins.low h))).trans e4
            have r6 := (hg.cell _ _ (lt_of_cell e5) (fun h => Nat.not_le_of_lt (lt_of_cell e5) (Ins.low h))).trans e5
            have r7 := (hg.cell _ _ (lt_of_cell e6) (fun h => Nat.not_le_of_lt (lt_of_cell e6) (Ins.low h))).trans e6
            have r8 := (hg.cell _ _ (lt_of_cell e7) (fun h => Nat.not_le_of_lt (lt_of_cell e7) (Ins.low h))).trans e7
            go_simp <;> exact rfl
          apply Free.walk_loud rfl rfl
          · intro w' hg hf; clear hf
            have hwB := hg.size
            go_simp
            exact Ins.fM hn hwB _ rfl
          intro v10
          apply Free.walk_loud rfl rfl
          · intro w' hg hf
            have hFA : Ins.F shA 4 10 11 15 wc.drew.heap.size tA (X.take kk) (⟨y0, y1, y2, y3, y4, y5, y6, y7, y8, y9⟩ : AnV) (X.drop kk) 4 v4 w' := by simpa using hf 4 (by decide) (by kernel_rfl)
            have hFM : Ins.F shA 4 10 11 15 wc.drew.heap.size tA (X.take kk) (⟨y0, y1, y2, y3, y4, y5, y6, y7, y8, y9⟩ : AnV) (X.drop kk) 10 v10 w' := by simpa using hf 10 (by decide) (by kernel_rfl)
            clear hf
            exact Ins.lA2 hn infoA rfl Tryz.underlying33 hg hFA hFM _ _ rfl (by simp [Act.eval, Act.put]) (by simp [Act.eval, Act.put]) (by have := hlt1.out; omega)
          intro v11
          (apply Free.walk_quiet rfl rfl; (intro w' hg hf; clear hf; go_simp <;> exact rfl))
          (apply Free.walk_quiet rfl rfl; (intro w' hg hf; clear hf; go_simp <;> exact rfl))
          (apply Free.walk_quiet rfl rfl; (intro w' hg hf; clear hf; go_simp <;> exact rfl))
          apply Free.walk_loud rfl rfl
          · intro w' hg hf
            have hFA : Ins.F shA 4 10 11 15 wc.drew.heap.size tA (X.take kk) (⟨y0, y1, y2, y3, y4, y5, y6, y7, y8, y9⟩ : AnV) (X.drop kk) 11 v11 w' := by simpa using hf 11 (by decide) (by kernel_rfl)
            clear hf
            exact Ins.lA3 hn (by decide) infoA rfl Tryz.underlying33 hg (fun b h => Ins.low h) hFA (hT2.out.keeps (Keeps.refl [] wc).drew) _ _ rfl (by simp [Act.eval, Act.put]) (by simp [Act.eval, Act.put]) (by have := hlt1.out; have := hlt2.out; omega)
          intro v15
          (apply Free.walk_quiet rfl rfl; (intro w' hg hf; clear hf; go_simp <;> exact rfl))
          refine Free.walk_nil ?_
          intro wF hg hf
          have hFin : Ins.F shA 4 10 11 15 wc.drew.heap.size tA (X.take kk) (⟨y0, y1, y2, y3, y4, y5, y6, y7, y8, y9⟩ : AnV) (X.drop kk) 15 v15 wF := by simpa using hf 15 (by decide) (by kernel_rfl)
          have hO := Lib.hid (hFin.2.2.2.2 rfl (by decide))
          have hk := Lib.hid (hg.to ((Keeps.refl [] wc).drew) (fun b h => .inr (Ins.lowA h)))
          clear hf hg hFin
          have hOf := Lib.hid (Ins.O_le hO.out hwcs)
          have hkw' := Lib.hid (hkc.out.trans hk.out)
          have hL2 := (hLc.out.keeps hk.out).ins (hxr.out.keeps hkw'.out) kk
          rw [← hins.out, ← hfold.out] at hL2
          have hbx2 := Lib.hid ((hk.out.block _ (lt_of_blk hbxc.out) (by simp)).trans hbxc.out)
          replace hL2 := Lib.hid hL2
          clear hO
          go_wp2
          all_goals
            go_roundw
            case rel => exact ⟨k + 1, _, rfl, by omega, hOf, hL2, hkw', hbx2⟩
            case measure => simp [intOf]; omega
    · have hkx : k = x7 := by omega
      subst hkx
      have hall : (t.qs.take k).foldl insO [] = srtOf t.qs := by rw [← hx7.out, List.take_length]; rfl
      rw [hall] at hLr
      go_wp2
      go_ret
      exact ⟨_, rfl, ⟨X, hOr.out.r, hLr.out⟩, hkr.out⟩
end Go.Proofs.YthfdngjbcgkkfaaGreat

namespace Go.Proofs.YthfdngjbcgkkfaaGreat
open Go.RowKit

set_option maxRecDepth 100000 in
set_option maxHeartbeats 20000000 in
theorem putR_c (w : World) (v : Value) (L : List T3) (n : T3) (h : shT.R w v L) (hl : L.length ≤ 1000000000000) :
    Calls Tryz.prog 65 #[v, tV n] w fun e w' => ∃ v', e = .returned v' ∧ ((v' = v ∧ putN n L = L) ∨ shT.O w' w.heap.size tN v' (putN n L)) ∧ Keeps [] w w' := by
  obtain ⟨a, c, rfl, hlc, hcm, hnil⟩ := h.form
  have hel := fun k hk => h.elem (k := k) hk
  obtain ⟨M, hM⟩ : ∃ N, L.length = N := ⟨_, rfl⟩
  rw [hM] at hlc hl h ⊢
  have hcm2 : c ≤ 9223372036854775807 := by unfold maxLen at hcm; omega
  obtain ⟨n0, n1, n2⟩ := n
  have hkA : Keeps [] w (w.alloc (.cells #[.int .i64 n0, .int .u64 n1, .int .i64 n2] tN)) := (Keeps.refl _ _).alloc _
  have hb0 := heap_alloc_new w (.cells #[.int .i64 n0, .int .u64 n1, .int .i64 n2] tN)
  replace hel := Lib.hid hel
  replace hM := Lib.hid hM
  replace hkA := Lib.hid hkA
  replace hb0 := Lib.hid hb0
  replace h := Lib.hid h
  replace hnil := Lib.hid hnil
  simp only [tV]
  go_enter Tryz.func65, Tryz.ntmps65
  (go_upto_region 1 with fail; iterate 8 go_step)
  generalize (w.alloc (.cells #[.int .i64 n0, .int .u64 n1, .int .i64 n2] tN)) = WA at *
  obtain ⟨X, hX⟩ : ∃ X, w.heap.size = X := ⟨_, rfl⟩
  rw [hX] at hb0 ⊢
  replace hX := Lib.hid hX
  go_cut [5] from 6 to 78 (fun i wx => ∃ k : Nat, i = .int .i64 k ∧ k ≤ M ∧ Hid (∀ j (hj : j < L.length), j < k → tlt L[j] (n0, n1, n2)) ∧ Hid (∀ hj : k < L.length, ¬ tlt L[k] (n0, n1, n2)) ∧ Hid (Keeps [] WA wx))
  case first =>
    go_wp2
    go_loopw [5] (fun i wr => ∃ k : Nat, i = .int .i64 k ∧ k ≤ M ∧ Hid (∀ j (hj : j < L.length), j < k → tlt L[j] (n0, n1, n2)) ∧ Hid (Keeps [] WA wr)) (fun i _ => M - (intOf i).toNat)
    case atStart => exact ⟨0, rfl, by omega, Lib.hid (fun _ _ h => by omega), Lib.hid (Keeps.refl _ _)⟩
    case round =>
      obtain ⟨k, rfl, hk, hno, hkr⟩ := hrel
      obtain ⟨y0, y1, y2⟩ := cells3t ((hkr.out.block X (lt_of_blk hb0.out) (by simp)).trans hb0.out)
      have hkw := hkA.out.trans hkr.out
      replace hkw := Lib.hid hkw
      by_cases hlt : k < M
      · have hkl : k < L.length := by rw [hM.out]; exact hlt
        obtain ⟨g, o, c', hv, he⟩ := hel.out k hkl
        rw [hM.out] at hv
        cases hv
        obtain ⟨⟨p0, p1, p2⟩, hp⟩ : ∃ x, L[k] = x := ⟨_, rfl⟩
        rw [hp] at he
        have e0 := hkw.out.val (he 0 _ rfl)
        have e1 := hkw.out.val (he 1 _ rfl)
        simp only [shT, Nat.add_zero] at e0 e1
        have hyes : tlt (p0, p1, p2) (n0, n1, n2) → ∀ j (hj : j < L.length), j < k + 1 → tlt L[j] (n0, n1, n2) := fun hn j hj hjk => by
          by_cases e : j = k
          · subst e; rw [hp]; exact hn
          · exact hno.out j hj (by omega)
        have hnot : ¬ tlt (p0, p1, p2) (n0, n1, n2) → ∀ hj : k < L.length, ¬ tlt L[k] (n0, n1, n2) := fun hn hj => by rw [hp]; exact hn
        replace hyes := Lib.hid hyes
        replace hnot := Lib.hid hnot
        replace hp := Lib.hid hp
        clear he
        by_cases a0 : p0 < n0
        · have b0 : decide (p0 < n0) = true := by simpa using a0
          have hy := Lib.hid (hyes.out (.inl a0))
          replace a0 := Lib.hid a0
          go_wp2
          (refine wp_region_quiet_lit (by kernel_rfl) (by kernel_rfl) ?_; (repeat (first | go_big_quiet_step (fail) | quiet_step (fail))); with_reducible refine wpQuiet_nil ?_; intro _ hw'; obtain ⟨nq, hw''⟩ := hw'; subst hw'')
          go_wp2
          go_roundw
          case rel => exact ⟨k + 1, rfl, by omega, hy, Lib.hid (hkr.out.drewN _)⟩
          case measure => simp [intOf]; omega
        · have b0 : decide (p0 < n0) = false := by simpa using a0
          by_cases a1 : p0 = n0
          · have b1 : (p0 == n0) = true := by simpa using a1
            by_cases a2 : p1 < n1
            · have b2 : decide ((p1 : Int) < (n1 : Int)) = true := by simp; omega
              have hy := Lib.hid (hyes.out (.inr ⟨a1, a2⟩))
              replace a0 := Lib.hid a0
              replace a1 := Lib.hid a1
              replace a2 := Lib.hid a2
              go_wp2
              (refine wp_region_quiet_lit (by kernel_rfl) (by kernel_rfl) ?_; (repeat (first | go_big_quiet_step (fail) | quiet_step (fail))); with_reducible refine wpQuiet_nil ?_; intro _ hw'; obtain ⟨nq, hw''⟩ := hw'; subst hw'')
              go_wp2
              go_roundw
              case rel => exact ⟨k + 1, rfl, by omega, hy, Lib.hid (hkr.out.drewN _)⟩
              case measure => simp [intOf]; omega
            · have b2 : decide ((p1 : Int) < (n1 : Int)) = false := by simp; omega
              have hy := Lib.hid (hnot.out (by unfold tlt; simp only; omega))
              replace a0 := Lib.hid a0
              replace a1 := Lib.hid a1
              replace a2 := Lib.hid a2
              go_wp2
              (refine wp_region_quiet_lit (by kernel_rfl) (by kernel_rfl) ?_; (repeat (first | go_big_quiet_step (fail) | quiet_step (fail))); with_reducible refine wpQuiet_nil ?_; intro _ hw'; obtain ⟨nq, hw''⟩ := hw'; subst hw'')
              go_wp2
              go_meet
              case rel => exact ⟨k, rfl, by omega, hno, hy, Lib.hid (hkr.out.drewN _)⟩
          · have b1 : (p0 == n0) = false := by simpa using a1
            have hy := Lib.hid (hnot.out (by unfold tlt; simp only; omega))
            replace a0 := Lib.hid a0
            replace a1 := Lib.hid a1
            go_wp2
            (refine wp_region_quiet_lit (by kernel_rfl) (by kernel_rfl) ?_; (repeat (first | go_big_quiet_step (fail) | quiet_step (fail))); with_reducible refine wpQuiet_nil ?_; intro _ hw'; obtain ⟨nq, hw''⟩ := hw'; subst hw'')
            go_wp2
            go_meet
            case rel => exact ⟨k, rfl, by omega, hno, hy, Lib.hid (hkr.out.drewN _)⟩
      · have hy : Hid (∀ hj : k < L.length, ¬ tlt L[k] (n0, n1, n2)) := Lib.hid (fun hj => absurd hj (by rw [hM.out]; exact hlt))
        have hlt2 : decide ((k : Int) < (M : Int)) = false := by simp; omega
        go_wp2
        (refine wp_region_quiet_lit (by kernel_rfl) (by kernel_rfl) ?_; (repeat (first | go_big_quiet_step (fail) | quiet_step (fail))); with_reducible refine wpQuiet_nil ?_; intro _ hw'; obtain ⟨nq, hw''⟩ := hw'; subst hw'')
        go_wp2
        go_meet
        case rel => exact ⟨k, rfl, by omega, hno, hy, Lib.hid (hkr.out.drewN _)⟩
  case rest =>
    obtain ⟨k, rfl, hk, hno, hst, hkr⟩ := hcut
    have hat := putN_at (n0, n1, n2) L k (by rw [hM.out]; exact hk) hno.out hst.out
    obtain ⟨y0, y1, y2⟩ := cells3t ((hkr.out.block X (lt_of_blk hb0.out) (by simp)).trans hb0.out)
    have hkw := hkA.out.trans hkr.out
    replace hkw := Lib.hid hkw
    replace hat := Lib.hid hat
    go_upto_region 4 with fail
    go_cut [65] from 6 to 78 (fun b wx => b = .bool (decide (∃ hi : k < L.length, L[k].1 = n0 ∧ L[k].2.1 = n1)) ∧ Hid (Keeps [] wc wx))
    case first =>
      by_cases hlt : k < M
      · have hkl : k < L.length := by rw [hM.out]; exact hlt
        obtain ⟨g, o, c', hv, he⟩ := hel.out k hkl
        rw [hM.out] at hv
        cases hv
        obtain ⟨⟨p0, p1, p2⟩, hp⟩ : ∃ x, L[k] = x := ⟨_, rfl⟩
        rw [hp] at he
        have e0 := hkw.out.val (he 0 _ rfl)
        have e1 := hkw.out.val (he 1 _ rfl)
        simp only [shT, Nat.add_zero] at e0 e1
        have hdec : ∀ q : Bool, (q = true ↔ (p0 = n0 ∧ p1 = n1)) → decide (∃ hi : k < L.length, L[k].1 = n0 ∧ L[k].2.1 = n1) = q := fun q hq => by
          rw [Bool.eq_iff_iff, decide_eq_true_iff, hq]
          exact ⟨fun ⟨_, h1, h2⟩ => by rw [hp] at h1 h2; exact ⟨h1, h2⟩, fun ⟨h1, h2⟩ => ⟨hkl, by rw [hp]; exact h1, by rw [hp]; exact h2⟩⟩
        replace hdec := Lib.hid hdec
        replace hp := Lib.hid hp
        clear he
        by_cases a1 : p0 = n0
        · have b1 : (p0 == n0) = true := by simpa using a1
          by_cases a2 : p1 = n1
          · have b2 : ((p1 : Int) == (n1 : Int)) = true := by simp [a2]
            have hd := Lib.hid (hdec.out true (by simp [a1, a2]))
            replace a1 := Lib.hid a1
            replace a2 := Lib.hid a2
            go_wp2
            (refine wp_region_quiet_lit (by kernel_rfl) (by kernel_rfl) ?_; (repeat (first | go_big_quiet_step (fail) | quiet_step (fail))); with_reducible refine wpQuiet_nil ?_; intro _ hw'; obtain ⟨nq, hw''⟩ := hw'; subst hw'')
            go_wp2
            go_meet
            case rel => exact ⟨by rw [hd.out], Lib.hid ((Keeps.refl _ _).drewN _)⟩
          · have b2 : ((p1 : Int) == (n1 : Int)) = false := by simp; omega
            have hd := Lib.hid (hdec.out false (by simp [a1, a2]))
            replace a1 := Lib.hid a1
            replace a2 := Lib.hid a2
            go_wp2
            (refine wp_region_quiet_lit (by kernel_rfl) (by kernel_rfl) ?_; (repeat (first | go_big_quiet_step (fail) | quiet_step (fail))); with_reducible refine wpQuiet_nil ?_; intro _ hw'; obtain ⟨nq, hw''⟩ := hw'; subst hw'')
            go_wp2
            go_meet
            case rel => exact ⟨by rw [hd.out], Lib.hid ((Keeps.refl _ _).drewN _)⟩
        · have b1 : (p0 == n0) = false := by simpa using a1
          have hd := Lib.hid (hdec.out false (by simp [a1]))
          replace a1 := Lib.hid a1
          go_wp2
          (refine wp_region_quiet_lit (by kernel_rfl) (by kernel_rfl) ?_; (repeat (first | go_big_quiet_step (fail) | quiet_step (fail))); with_reducible refine wpQuiet_nil ?_; intro _ hw'; obtain ⟨nq, hw''⟩ := hw'; subst hw'')
          go_wp2
          go_meet
          case rel => exact ⟨by rw [hd.out], Lib.hid ((Keeps.refl _ _).drewN _)⟩
      · have hd : decide (∃ hi : k < L.length, L[k].1 = n0 ∧ L[k].2.1 = n1) = false := decide_eq_false (fun ⟨h1, _⟩ => by rw [hM.out] at h1; exact hlt h1)
        have hlt2 : decide ((k : Int) < (M : Int)) = false := by simp; omega
        replace hd := Lib.hid hd
        go_wp2
        (refine wp_region_quiet_lit (by kernel_rfl) (by kernel_rfl) ?_; (repeat (first | go_big_quiet_step (fail) | quiet_step (fail))); with_reducible refine wpQuiet_nil ?_; intro _ hw'; obtain ⟨nq, hw''⟩ := hw'; subst hw'')
        go_wp2
        go_meet
        case rel => exact ⟨by rw [hd.out], Lib.hid ((Keeps.refl _ _).drewN _)⟩
    case rest =>
      obtain ⟨rfl, hk4⟩ := hcut
      by_cases hfd : ∃ hi : k < L.length, L[k].1 = n0 ∧ L[k].2.1 = n1
      · have hres : putN (n0, n1, n2) L = L := by rw [hat.out, if_pos hfd]
        rw [decide_eq_true hfd]
        have hkf := Lib.hid (hkw.out.trans hk4.out)
        replace hres := Lib.hid hres
        replace hfd := Lib.hid hfd
        go_wp2
        go_ret
        exact ⟨_, rfl, .inl ⟨rfl, hres.out⟩, hkf.out⟩
      · have hres : putN (n0, n1, n2) L = L.take k ++ (n0, n1, n2) :: L.drop k := by rw [hat.out, if_neg hfd]
        rw [decide_eq_false hfd]
        have hkc := hkw.out.trans hk4.out
        obtain ⟨y0, y1, y2⟩ := cells3t ((hk4.out.block X (lt_of_blk ((hkr.out.block X (lt_of_blk hb0.out) (by simp)).trans hb0.out)) (by simp)).trans ((hkr.out.block X (lt_of_blk hb0.out) (by simp)).trans hb0.out))
        have hXl := lt_of_cell y0
        have hRk := h.out.keeps hkc
        have hT1 := hRk.init' k (by rw [hM.out]; exact hk)
        have hT2 := hRk.tail' k (by rw [hM.out]; exact hk)
        rw [hM.out] at hT2
        replace hT2 : shT.R wc (.slice (if c = k then a else a.map (·.add (k * 3))) (M - k) (c - k)) (L.drop k) := hT2
        have f1 : (0 : Int) ≤ (k : Int) := by omega
        have f2 : (k : Int) ≤ (c : Int) := by omega
        have f3 : (k : Int) ≤ (M : Int) := by omega
        have hlt1 : (L.take k).length ≤ 1000000000000 := by rw [List.length_take, hM.out]; omega
        have hlt2 : (L.drop k).length ≤ 1000000000000 := by rw [List.length_drop, hM.out]; omega
        replace hkc := Lib.hid hkc
        replace hT1 := Lib.hid hT1
        replace hT2 := Lib.hid hT2
        replace hlt1 := Lib.hid hlt1
        replace hlt2 := Lib.hid hlt2
        replace hres := Lib.hid hres
        replace hfd := Lib.hid hfd
        clear hRk hk4 hkr
        go_wp2
        have hn : Ins.Nums 4 6 7 11 := by unfold Ins.Nums; decide
        refine Free.wp_region_free (by kernel_rfl) (by kernel_rfl) (fun i => i == 0 || i == 4 || i == 6 || i == 7 || i == 11) (Ins.F shT 4 6 7 11 wc.drew.heap.size tN (L.take k) (n0, n1, n2) (L.drop k)) (Ins.T 7 11 wc.drew.heap.size) (Ins.K 7 11) (Ins.stable (.inr (by kernel_rfl))) ?_
        apply Free.walk_loud rfl rfl
        · intro w' hg hf; clear hf
          have hwB := hg.size
          go_simp
          exact Ins.fE hn hwB
        intro v0
        (apply Free.walk_quiet rfl rfl; (intro w' hg hf; clear hf; go_simp <;> exact rfl))
        (apply Free.walk_quiet rfl rfl; (intro w' hg hf; clear hf; go_simp <;> exact rfl))
        (apply Free.walk_quiet rfl rfl; (intro w' hg hf; clear hf; go_simp <;> exact rfl))
        apply Free.walk_loud rfl rfl
        · intro w' hg hf
          have hF0 : Ins.F shT 4 6 7 11 wc.drew.heap.size tN (L.take k) (n0, n1, n2) (L.drop k) 0 v0 w' := by simpa using hf 0 (by decide) (by kernel_rfl)
          clear hf
          exact Ins.lA hn infoN rfl Tryz.underlying32 hg (fun b h => Ins.low h) hF0 (hT1.out.keeps (Keeps.refl [] wc).drew) _ _ rfl (by simp [Act.eval, Act.put]) (by simp [Act.eval, Act.put]) (by have := hlt1.out; omega)
        intro v4
        apply Free.walk_quiet rfl rfl
        · intro w' hg hf; clear hf
          have r0 := (hg.cell _ _ (lt_of_cell y0) (fun h => Nat.not_le_of_lt (lt_of_cell y0) (Ins.low h))).trans y0
          have r1 := (hg.cell _ _ (lt_of_cell y1) (fun h => Nat.not_le_of_lt (lt_of_cell y1) (Ins.low h))).trans y1
          have r2 := (hg.cell _ _ (lt_of_cell y2) (fun h => Nat.not_le_of_lt (lt_of_cell y2) (Ins.low h))).trans y2
          go_simp <;> exact rfl
        apply Free.walk_loud rfl rfl
        · intro w' hg hf; clear hf
          have hwB := hg.size
          go_simp
          exact Ins.fM hn hwB _ rfl
        intro v6
        apply Free.walk_loud rfl rfl
        · intro w' hg hf
          have hFA : Ins.F shT 4 6 7 11 wc.drew.heap.size tN (L.take k) (n0, n1, n2) (L.drop k) 4 v4 w' := by simpa using hf 4 (by decide) (by kernel_rfl)
          have hFM : Ins.F shT 4 6 7 11 wc.drew.heap.size tN (L.take k) (n0, n1, n2) (L.drop k) 6 v6 w' := by simpa using hf 6 (by decide) (by kernel_rfl)
          clear hf
          exact Ins.lA2 hn infoN rfl Tryz.underlying32 hg hFA hFM _ _ rfl (by simp [Act.eval, Act.put]) (by simp [Act.eval, Act.put]) (by have := hlt1.out; omega)
        intro v7
        (apply Free.walk_quiet rfl rfl; (intro w' hg hf; clear hf; go_simp <;> exact rfl))
        (apply Free.walk_quiet rfl rfl; (intro w' hg hf; clear hf; go_simp <;> exact rfl))
        (apply Free.walk_quiet rfl rfl; (intro w' hg hf; clear hf; go_simp <;> exact rfl))
        apply Free.walk_loud rfl rfl
        · intro w' hg hf
          have hFA : Ins.F shT 4 6 7 11 wc.drew.heap.size tN (L.take k) (n0, n1, n2) (L.drop k) 7 v7 w' := by simpa using hf 7 (by decide) (by kernel_rfl)
          clear hf
          exact Ins.lA3 hn (by decide) infoN rfl Tryz.underlying32 hg (fun b h => Ins.low h) hFA (hT2.out.keeps (Keeps.refl [] wc).drew) _ _ rfl (by simp [Act.eval, Act.put]) (by simp [Act.eval, Act.put]) (by have := hlt1.out; have := hlt2.out; omega)
        intro v11
        (apply Free.walk_quiet rfl rfl; (intro w' hg hf; clear hf; go_simp <;> exact rfl))
        refine Free.walk_nil ?_
        intro wF hg hf
        have hFin : Ins.F shT 4 6 7 11 wc.drew.heap.size tN (L.take k) (n0, n1, n2) (L.drop k) 11 v11 wF := by simpa using hf 11 (by decide) (by kernel_rfl)
        have hO := Lib.hid (hFin.2.2.2.2 rfl (by decide))
        have hk := Lib.hid (hg.to ((Keeps.refl [] wc).drew) (fun b h => .inr (Ins.lowA h)))
        clear hf hg hFin
        go_wp2
        all_goals
          go_ret
          exact ⟨_, rfl, .inr (by rw [hres.out]; have := Ins.O_le hO.out (show w.heap.size ≤ wc.drew.heap.size from hkc.out.size); rw [List.append_assoc, List.singleton_append] at this; exact this), (hkc.out.trans hk.out)⟩
end Go.Proofs.YthfdngjbcgkkfaaGreat

namespace Go.Proofs.YthfdngjbcgkkfaaGreat
open Go.RowKit

set_option maxRecDepth 100000 in
set_option maxHeartbeats 2000000 in
theorem sameNeeds_c (w : World) (v1 v2 : Value) (L1 L2 : List T3) (h1 : shT.R w v1 L1) (h2 : shT.R w v2 L2) :
    Calls Tryz.prog 22 #[v1, v2] w fun e w' => e = .returned (.bool (decide (L1 = L2))) ∧ Keeps [] w w' := by
  obtain ⟨a1, c1, rfl, hlc1, hcm1, _⟩ := h1.form
  obtain ⟨a2, c2, rfl, hlc2, hcm2, _⟩ := h2.form
  have hel1 := fun k hk => h1.elem (k := k) hk
  have hel2 := fun k hk => h2.elem (k := k) hk
  obtain ⟨M1, hM1⟩ : ∃ N, L1.length = N := ⟨_, rfl⟩
  obtain ⟨M2, hM2⟩ : ∃ N, L2.length = N := ⟨_, rfl⟩
  rw [hM1] at hlc1 ⊢
  rw [hM2] at hlc2 ⊢
  have hMm : M1 ≤ 9223372036854775807 := by unfold maxLen at hcm1; omega
  replace hel1 := Lib.hid hel1
  replace hel2 := Lib.hid hel2
  replace hM1 := Lib.hid hM1
  replace hM2 := Lib.hid hM2
  clear h1 h2 hcm1 hcm2
  obtain ⟨rb, hrb⟩ : ∃ b, decide (L1 = L2) = b := ⟨_, rfl⟩
  rw [hrb]
  replace hrb := Lib.hid hrb
  by_cases hne : M1 = M2
  · subst hne
    go_enter Tryz.func22, Tryz.ntmps22
    go_wp2
    go_loopw [5] (fun i wr => ∃ k : Nat, i = .int .i64 k ∧ k ≤ M1 ∧ Hid (∀ j (h1 : j < L1.length) (h2 : j < L2.length), j < k → L1[j] = L2[j]) ∧ Hid (Keeps [] w wr)) (fun i _ => M1 - (intOf i).toNat)
    case atStart => exact ⟨0, rfl, by omega, Lib.hid (fun _ _ _ h => by omega), Lib.hid (Keeps.refl _ _)⟩
    case round =>
      obtain ⟨k, rfl, hk, hno, hkw⟩ := hrel
      by_cases hlt : k < M1
      · have hk1 : k < L1.length := by rw [hM1.out]; exact hlt
        have hk2 : k < L2.length := by rw [hM2.out]; exact hlt
        obtain ⟨g, o, c', hv, he⟩ := hel1.out k hk1
        obtain ⟨g2, o2, c2', hv2, he2⟩ := hel2.out k hk2
        rw [hM1.out] at hv
        rw [hM2.out] at hv2
        cases hv
        cases hv2
        obtain ⟨⟨x0, x1, x2⟩, hx⟩ : ∃ x, L1[k] = x := ⟨_, rfl⟩
        obtain ⟨⟨y0, y1, y2⟩, hy⟩ : ∃ x, L2[k] = x := ⟨_, rfl⟩
        rw [hx] at he
        rw [hy] at he2
        have e0 := hkw.out.val (he 0 _ rfl)
        have e1 := hkw.out.val (he 1 _ rfl)
        have e2 := hkw.out.val (he 2 _ rfl)
        have d0 := hkw.out.val (he2 0 _ rfl)
        have d1 := hkw.out.val (he2 1 _ rfl)
        have d2 := hkw.out.val (he2 2 _ rfl)
        simp only [shT, Nat.add_zero] at e0 e1 e2 d0 d1 d2
        have hq := fun w => neN w (x0, x1, x2) (y0, y1, y2)
        simp only [tV] at hq
        replace hx := Lib.hid hx
        replace hy := Lib.hid hy
        clear he he2
        by_cases h1 : (x0, x1, x2) = (y0, y1, y2)
        · rw [decide_eq_false (fun h => h h1)] at hq
          replace h1 := Lib.hid h1
          go_wp2
          (refine wp_region_quiet_lit (by kernel_rfl) (by kernel_rfl) ?_; (repeat (first | go_big_quiet_step (fail) | quiet_step (fail))); with_reducible refine wpQuiet_nil ?_; intro _ hw'; obtain ⟨nq, hw''⟩ := hw'; subst hw'')
          go_wp2
          go_roundw
          case rel => exact ⟨k + 1, rfl, by omega, Lib.hid (fun j hj1 hj2 hjk => by
              by_cases e : j = k
              · subst e; rw [hx.out, hy.out]; exact h1.out
              · exact hno.out j hj1 hj2 (by omega)), Lib.hid (hkw.out.drewN _)⟩
          case measure => simp [intOf]; omega
        · rw [decide_eq_true h1] at hq
          have hr : decide (L1 = L2) = false := decide_eq_false (fun e => h1 (by rw [← hx.out, ← hy.out]; simp only [e]))
          rw [hrb.out] at hr
          replace hr := Lib.hid hr
          replace h1 := Lib.hid h1
          go_wp2
          (refine wp_region_quiet_lit (by kernel_rfl) (by kernel_rfl) ?_; (repeat (first | go_big_quiet_step (fail) | quiet_step (fail))); with_reducible refine wpQuiet_nil ?_; intro _ hw'; obtain ⟨nq, hw''⟩ := hw'; subst hw'')
          go_wp2
          go_ret
          exact ⟨by rw [hr.out]; rfl, hkw.out.drewN _⟩
      · have hr : decide (L1 = L2) = true := decide_eq_true (List.ext_getElem (by rw [hM1.out, hM2.out]) (fun j h1 h2 => hno.out j h1 h2 (by rw [hM1.out] at h1; omega)))
        rw [hrb.out] at hr
        replace hr := Lib.hid hr
        go_wp2
        go_ret
        exact ⟨by rw [hr.out]; rfl, hkw.out⟩
  · have hne1 : ((M1 : Int) != M2) = true := by simp; omega
    have hr : decide (L1 = L2) = false := decide_eq_false (fun e => hne (by rw [← hM1.out, ← hM2.out, e]))
    rw [hrb.out] at hr
    replace hr := Lib.hid hr
    go_enter Tryz.func22, Tryz.ntmps22
    go_wp2
    go_ret
    exact ⟨by rw [hr.out]; rfl, Keeps.refl _ _⟩
def clV (x : ClV) : Value := .agg #[.int .i64 x.m, .int .i64 x.ep, slv x.v1, slv x.v2, slv x.v3]
/-- The cells of a claim say this claim. -/
structure CR (w : World) (x : ClV) (p : PCl) : Prop where
  m : x.m = p.m
  ep : x.ep = p.ep
  st : shT.R w (slv x.v1) p.st
  sc : shT.R w (slv x.v2) p.sc
  ch : shT.R w (slv x.v3) p.ch
theorem CR.keeps {w w' : World} {x : ClV} {p : PCl} (h : CR w x p) (hk : Keeps [] w w') : CR w' x p := ⟨h.m, h.ep, h.st.keeps hk, h.sc.keeps hk, h.ch.keeps hk⟩
theorem decide_pcl (p q : PCl) : decide (p = q) = (p.m == q.m && (p.ep == q.ep && (decide (p.st = q.st) && (decide (p.sc = q.sc) && decide (p.ch = q.ch))))) := by
  obtain ⟨a, b, c, d, e⟩ := p
  obtain ⟨a', b', c', d', e'⟩ := q
  simp only [PCl.mk.injEq, Bool.decide_and]
  rfl
theorem cells5 {w : World} {b : Nat} {x0 x1 x2 x3 x4 : Value} {t : TypeId} {f : Nat × Nat} (h : w.heap[b]? = some (.cells #[x0, x1, x2, x3, x4] t f)) : w.cell? ⟨b, 0, none⟩ = some x0 ∧ w.cell? ⟨b, 1, none⟩ = some x1 ∧ w.cell? ⟨b, 2, none⟩ = some x2 ∧ w.cell? ⟨b, 3, none⟩ = some x3 ∧ w.cell? ⟨b, 4, none⟩ = some x4 ∧ b < w.heap.size := by
  refine ⟨?_, ?_, ?_, ?_, ?_, lt_of_blk h⟩ <;> simp [World.cell?, h]
set_option maxRecDepth 100000 in
set_option maxHeartbeats 4000000 in
theorem sameClaim_c (w : World) (x y : ClV) (p q : PCl) (h1 : CR w x p) (h2 : CR w y q) :
    Calls Tryz.prog 39 #[clV x, clV y] w fun e w' => e = .returned (.bool (decide (p = q))) ∧ Keeps [] w w' := by
  have hdec := decide_pcl p q
  obtain ⟨rb, hrb⟩ : ∃ b, decide (p = q) = b := ⟨_, rfl⟩
  rw [hrb] at hdec ⊢
  obtain ⟨x0, x1, ⟨a1, a2, a3⟩, ⟨b1, b2, b3⟩, ⟨c1, c2, c3⟩⟩ := x
  obtain ⟨y0, y1, ⟨d1, d2, d3⟩, ⟨e1, e2, e3⟩, ⟨g1, g2, g3⟩⟩ := y
  obtain ⟨m1, m2, m3, m4, m5⟩ := h1
  obtain ⟨n1, n2, n3, n4, n5⟩ := h2
  simp only [slv] at m1 m2 m3 m4 m5 n1 n2 n3 n4 n5
  rw [← m1, ← m2, ← n1, ← n2] at hdec
  have hc1 := fun (W : World) (hk : Keeps [] w W) => sameNeeds_c W _ _ _ _ (m3.keeps hk) (n3.keeps hk)
  have hc2 := fun (W : World) (hk : Keeps [] w W) => sameNeeds_c W _ _ _ _ (m4.keeps hk) (n4.keeps hk)
  have hc3 := fun (W : World) (hk : Keeps [] w W) => sameNeeds_c W _ _ _ _ (m5.keeps hk) (n5.keeps hk)
  obtain ⟨s1, hs1⟩ : ∃ b, decide (p.st = q.st) = b := ⟨_, rfl⟩
  obtain ⟨s2, hs2⟩ : ∃ b, decide (p.sc = q.sc) = b := ⟨_, rfl⟩
  obtain ⟨s3, hs3⟩ : ∃ b, decide (p.ch = q.ch) = b := ⟨_, rfl⟩
  rw [hs1] at hc1 hdec
  rw [hs2] at hc2 hdec
  rw [hs3] at hc3 hdec
  have hkA : Keeps [] w ((w.alloc (.cells #[.int .i64 x0, .int .i64 x1, .slice a1 a2 a3, .slice b1 b2 b3, .slice c1 c2 c3] tC)).alloc (.cells #[.int .i64 y0, .int .i64 y1, .slice d1 d2 d3, .slice e1 e2 e3, .slice g1 g2 g3] tC)) := ((Keeps.refl _ _).alloc _).alloc _
  have hbA : ((w.alloc (.cells #[.int .i64 x0, .int .i64 x1, .slice a1 a2 a3, .slice b1 b2 b3, .slice c1 c2 c3] tC)).alloc (.cells #[.int .i64 y0, .int .i64 y1, .slice d1 d2 d3, .slice e1 e2 e3, .slice g1 g2 g3] tC)).heap[w.heap.size]? = some (.cells #[.int .i64 x0, .int .i64 x1, .slice a1 a2 a3, .slice b1 b2 b3, .slice c1 c2 c3] tC (0, 0)) :=
    (((Keeps.refl [] _).alloc _).block w.heap.size (by simp) (by simp)).trans (heap_alloc_new w _)
  have hbB : ((w.alloc (.cells #[.int .i64 x0, .int .i64 x1, .slice a1 a2 a3, .slice b1 b2 b3, .slice c1 c2 c3] tC)).alloc (.cells #[.int .i64 y0, .int .i64 y1, .slice d1 d2 d3, .slice e1 e2 e3, .slice g1 g2 g3] tC)).heap[w.heap.size + 1]? = some (.cells #[.int .i64 y0, .int .i64 y1, .slice d1 d2 d3, .slice e1 e2 e3, .slice g1 g2 g3] tC (0, 0)) := by
    have h3 := heap_alloc_new (w.alloc (.cells #[.int .i64 x0, .int .i64 x1, .slice a1 a2 a3, .slice b1 b2 b3, .slice c1 c2 c3] tC)) (.cells #[.int .i64 y0, .int .i64 y1, .slice d1 d2 d3, .slice e1 e2 e3, .slice g1 g2 g3] tC)
    rwa [show (w.alloc (.cells #[.int .i64 x0, .int .i64 x1, .slice a1 a2 a3, .slice b1 b2 b3, .slice c1 c2 c3] tC)).heap.size = w.heap.size + 1 by simp] at h3
  replace hbA := Lib.hid hbA
  replace hbB := Lib.hid hbB
  replace hc1 := Lib.hid hc1
  replace hc2 := Lib.hid hc2
  replace hc3 := Lib.hid hc3
  replace hdec := Lib.hid hdec
  replace hkA := Lib.hid hkA
  clear m1 m2 m3 m4 m5 n1 n2 n3 n4 n5 hs1 hs2 hs3 hrb
  simp only [clV, slv]
  by_cases f1 : x0 = y0
  case neg =>
    have k1 : (x0 == y0) = false := by simpa using f1
    have hd := hdec.out
    rw [k1, Bool.false_and] at hd
    subst hd
    go_enter Tryz.func39, Tryz.ntmps39
    go_wp2
    go_ret
    exact ⟨rfl, hkA.out⟩
  case pos =>
  subst f1
  have k1 : (x0 == x0) = true := by simp
  by_cases f2 : x1 = y1
  case neg =>
    have k2 : (x1 == y1) = false := by simpa using f2
    have hd := hdec.out
    rw [k1, k2, Bool.true_and, Bool.false_and] at hd
    subst hd
    go_enter Tryz.func39, Tryz.ntmps39
    go_wp2
    go_ret
    exact ⟨rfl, hkA.out⟩
  case pos =>
  subst f2
  have k2 : (x1 == x1) = true := by simp
  have hd := hdec.out
  rw [k1, k2, Bool.true_and, Bool.true_and] at hd
  subst hd
  clear hdec k1 k2
  go_enter Tryz.func39, Tryz.ntmps39
  go_wp2_with fail
  refine (hc1.out _ hkA.out).mono ?_
  rintro e w1 ⟨rfl, hk1⟩
  have hk01 := hkA.out.trans hk1
  have hb1 := (hk1.block _ (lt_of_blk hbA.out) (by simp)).trans hbA.out
  have hb2 := (hk1.block _ (lt_of_blk hbB.out) (by simp)).trans hbB.out
  obtain ⟨_, _, p2, p3, p4, _⟩ := cells5 hb1
  obtain ⟨_, _, q2, q3, q4, _⟩ := cells5 hb2
  replace hk01 := Lib.hid hk01
  replace hb1 := Lib.hid hb1
  replace hb2 := Lib.hid hb2
  clear hbA hbB hkA hk1 hc1
  cases s1 with
  | false =>
    go_wp2
    go_ret
    exact ⟨rfl, hk01.out⟩
  | true =>
  go_wp2_with fail
  refine (hc2.out _ hk01.out).mono ?_
  rintro e w2 ⟨rfl, hk2⟩
  have hk02 := hk01.out.trans hk2
  have hb3 := (hk2.block _ (lt_of_blk hb1.out) (by simp)).trans hb1.out
  have hb4 := (hk2.block _ (lt_of_blk hb2.out) (by simp)).trans hb2.out
  obtain ⟨_, _, p2, p3, p4, _⟩ := cells5 hb3
  obtain ⟨_, _, q2, q3, q4, _⟩ := cells5 hb4
  replace hk02 := Lib.hid hk02
  clear hb1 hb2 hb3 hb4 hk01 hk2 hc2
  cases s2 with
  | false =>
    go_wp2
    go_ret
    exact ⟨rfl, hk02.out⟩
  | true =>
  go_wp2_with fail
  refine (hc3.out _ hk02.out).mono ?_
  rintro e w3 ⟨rfl, hk3⟩
  have hk03 := hk02.out.trans hk3
  replace hk03 := Lib.hid hk03
  go_wp2
  go_ret
  exact ⟨rfl, hk03.out⟩
/-- A list of claims that is read. -/
def LC (w : World) (v : Value) (P : List PCl) : Prop := ∃ C, shC.R w v C ∧ C.length = P.length ∧ ∀ (k : Nat) (x : ClV) (p : PCl), C[k]? = some x → P[k]? = some p → CR w x p
theorem LC.keeps {w w' : World} {v : Value} {P : List PCl} (h : LC w v P) (hk : Keeps [] w w') : LC w' v P := by
  obtain ⟨C, h1, h2, h3⟩ := h
  exact ⟨C, h1.keeps hk, h2, fun k x p hx hp => (h3 k x p hx hp).keeps hk⟩
theorem LC.nil (w : World) : LC w (.slice none 0 0) [] := ⟨[], Sh.R.nil _ _, rfl, fun k x p h => by simp at h⟩
theorem LC.form {w : World} {v : Value} {P : List PCl} (h : LC w v P) : ∃ a c, v = .slice a P.length c ∧ P.length ≤ c ∧ c ≤ maxLen := by
  obtain ⟨C, h1, h2, h3⟩ := h
  obtain ⟨a, c, e, h4, h5, _⟩ := h1.form
  exact ⟨a, c, by rw [← h2]; exact e, by omega, h5⟩
theorem LC.elem {w : World} {v : Value} {P : List PCl} (h : LC w v P) {k : Nat} (hk : k < P.length) : ∃ g o c x, v = .slice (some ⟨g, o, none⟩) P.length c ∧ CR w x P[k] ∧ w.cell? ⟨g, o + k * 5, none⟩ = some (.int .i64 x.m) ∧ w.cell? ⟨g, o + k * 5 + 1, none⟩ = some (.int .i64 x.ep) ∧
    w.cell? ⟨g, o + k * 5 + 2, none⟩ = some (slv x.v1) ∧ w.cell? ⟨g, o + k * 5 + 3, none⟩ = some (slv x.v2) ∧ w.cell? ⟨g, o + k * 5 + 4, none⟩ = some (slv x.v3) := by
  obtain ⟨C, h1, h2, h3⟩ := h
  have hkC : k < C.length := by omega
  obtain ⟨g, o, c, e, he⟩ := h1.elem hkC
  refine ⟨g, o, c, C[k], by rw [← h2]; exact e, h3 k _ _ (List.getElem?_eq_getElem _) (List.getElem?_eq_getElem _), ?_, ?_, ?_, ?_, ?_⟩
  · simpa [shC] using he 0 _ rfl
  · simpa [shC] using he 1 _ rfl
  · simpa [shC] using he 2 _ rfl
  · simpa [shC] using he 3 _ rfl
  · simpa [shC] using he 4 _ rfl
theorem CL.lc {w : World} {B : Nat} {vc : Value} {P : List PCl} {V : Nat → Nat → SlT} (h : CL w B vc P V) : LC w vc P := by
  refine ⟨_, h.c.r, rowsC_len P V, fun k x p hx hp => ?_⟩
  obtain ⟨hk, rfl⟩ := List.getElem?_eq_some_iff.1 hp
  obtain ⟨hk2, rfl⟩ := List.getElem?_eq_some_iff.1 hx
  rw [rowsC_get P V k hk]
  exact ⟨rfl, rfl, (h.o k 0 hk (by omega)).r, (h.o k 1 hk (by omega)).r, (h.o k 2 hk (by omega)).r⟩
set_option maxRecDepth 100000 in
set_option maxHeartbeats 4000000 in
theorem sameClaims_c (w : World) (v1 v2 : Value) (L1 L2 : List PCl) (h1 : LC w v1 L1) (h2 : LC w v2 L2) :
    Calls Tryz.prog 13 #[v1, v2] w fun e w' => e = .returned (.bool (decide (L1 = L2))) ∧ Keeps [] w w' := by
  obtain ⟨a1, c1, rfl, hlc1, hcm1⟩ := h1.form
  obtain ⟨a2, c2, rfl, hlc2, hcm2⟩ := h2.form
  obtain ⟨M1, hM1⟩ : ∃ N, L1.length = N := ⟨_, rfl⟩
  obtain ⟨M2, hM2⟩ : ∃ N, L2.length = N := ⟨_, rfl⟩
  rw [hM1] at hlc1 h1 ⊢
  rw [hM2] at hlc2 h2 ⊢
  have hMm : M1 ≤ 9223372036854775807 := by unfold maxLen at hcm1; omega
  replace h1 := Lib.hid h1
  replace h2 := Lib.hid h2
  replace hM1 := Lib.hid hM1
  replace hM2 := Lib.hid hM2
  clear hcm1 hcm2
  obtain ⟨rb, hrb⟩ : ∃ b, decide (L1 = L2) = b := ⟨_, rfl⟩
  rw [hrb]
  replace hrb := Lib.hid hrb
  by_cases hne : M1 = M2
  · subst hne
    go_enter Tryz.func13, Tryz.ntmps13
    go_wp2
    go_loopw [5] (fun i wr => ∃ k : Nat, i = .int .i64 k ∧ k ≤ M1 ∧ Hid (∀ j (h1 : j < L1.length) (h2 : j < L2.length), j < k → L1[j] = L2[j]) ∧ Hid (Keeps [] w wr)) (fun i _ => M1 - (intOf i).toNat)
    case atStart => exact ⟨0, rfl, by omega, Lib.hid (fun _ _ _ h => by omega), Lib.hid (Keeps.refl _ _)⟩
    case round =>
      obtain ⟨k, rfl, hk, hno, hkw⟩ := hrel
      by_cases hlt : k < M1
      · have hk1 : k < L1.length := by rw [hM1.out]; exact hlt
        have hk2 : k < L2.length := by rw [hM2.out]; exact hlt
        obtain ⟨g, o, c', x, hv, hxr, e0, e1, e2, e3, e4⟩ := (h1.out.keeps hkw.out).elem hk1
        obtain ⟨g2, o2, c2', y, hv2, hyr, d0, d1, d2, d3, d4⟩ := (h2.out.keeps hkw.out).elem hk2
        rw [hM1.out] at hv
        rw [hM2.out] at hv2
        cases hv
        cases hv2
        have hcon := fun (W : World) (hk : Keeps [] wr W) => sameClaim_c W x y _ _ (hxr.keeps hk) (hyr.keeps hk)
        obtain ⟨sb, hsb⟩ : ∃ b, decide (L1[k] = L2[k]) = b := ⟨_, rfl⟩
        rw [hsb] at hcon
        obtain ⟨x0, x1, ⟨x2, x3, x4⟩, ⟨x5, x6, x7⟩, ⟨x8, x9, x10⟩⟩ := x
        obtain ⟨y0, y1, ⟨y2, y3, y4⟩, ⟨y5, y6, y7⟩, ⟨y8, y9, y10⟩⟩ := y
        simp only [clV, slv] at hcon e0 e1 e2 e3 e4 d0 d1 d2 d3 d4
        replace hcon := Lib.hid hcon
        replace hsb := Lib.hid hsb
        clear hxr hyr
        go_wp2
        refine Free.wp_region_chain (fun i => i == 8) (fun i => true) (fun _ _ => False) (by kernel_rfl) (by kernel_rfl) (by kernel_rfl) ?_
        (repeat (first | (apply Free.cw_pure rfl rfl; (intro w'; go_simp <;> exact rfl); go_frame) | (apply Free.cw_steady rfl rfl rfl; (intro w' hS; have q0 := Free.sx_cell hS e0 (fun _ _ hT => hT); have q1 := Free.sx_cell hS e1 (fun _ _ hT => hT); have q2 := Free.sx_cell hS e2 (fun _ _ hT => hT); have q3 := Free.sx_cell hS e3 (fun _ _ hT => hT); have q4 := Free.sx_cell hS e4 (fun _ _ hT => hT); have q5 := Free.sx_cell hS d0 (fun _ _ hT => hT); have q6 := Free.sx_cell hS d1 (fun _ _ hT => hT); have q7 := Free.sx_cell hS d2 (fun _ _ hT => hT); have q8 := Free.sx_cell hS d3 (fun _ _ hT => hT); have q9 := Free.sx_cell hS d4 (fun _ _ hT => hT); go_simp <;> exact rfl); go_frame) | (refine Free.cw_skip rfl ?_; go_frame)))
        refine Free.cw_loud rfl rfl (fun K hK => ?_)
        go_wp2_with fail
        refine (hcon.out _ ((Keeps.refl [] _).drew)).mono ?_
        rintro e w2 ⟨rfl, hkB⟩
        refine hK _ _ rfl (Free.KeepsP.of hkB (by simp)) ?_
        clear hK K hcon
        (repeat (apply Free.cw_pure rfl rfl; (intro w'; go_simp <;> exact rfl); go_frame))
        refine Free.cw_nil ?_
        have hkB2 : Keeps [] wr w2 := ((Keeps.refl [] wr).drew).trans hkB
        have hkw2 := Lib.hid (hkw.out.trans hkB2)
        clear hkB hkB2 hkw
        cases sb with
        | true =>
          go_wp2
          go_roundw
          case rel => exact ⟨k + 1, rfl, by omega, Lib.hid (fun j hj1 hj2 hjk => by
              by_cases e : j = k
              · subst e; exact of_decide_eq_true hsb.out
              · exact hno.out j hj1 hj2 (by omega)), hkw2⟩
          case measure => simp [intOf]; omega
        | false =>
          have hr : decide (L1 = L2) = false := decide_eq_false (fun e => of_decide_eq_false hsb.out (by simp only [e]))
          rw [hrb.out] at hr
          replace hr := Lib.hid hr
          go_wp2
          go_ret
          exact ⟨by rw [hr.out]; rfl, hkw2.out⟩
      · have hr : decide (L1 = L2) = true := decide_eq_true (List.ext_getElem (by rw [hM1.out, hM2.out]) (fun j h1 h2 => hno.out j h1 h2 (by rw [hM1.out] at h1; omega)))
        rw [hrb.out] at hr
        replace hr := Lib.hid hr
        go_wp2
        go_ret
        exact ⟨by rw [hr.out]; rfl, hkw.out⟩
  · have hne1 : ((M1 : Int) != M2) = true := by simp; omega
    have hr : decide (L1 = L2) = false := decide_eq_false (fun e => hne (by rw [← hM1.out, ← hM2.out, e]))
    rw [hrb.out] at hr
    replace hr := Lib.hid hr
    go_enter Tryz.func13, Tryz.ntmps13
    go_wp2
    go_ret
    exact ⟨by rw [hr.out]; rfl, Keeps.refl _ _⟩
end Go.Proofs.YthfdngjbcgkkfaaGreat

namespace Go.Proofs.YthfdngjbcgkkfaaGreat
open Go.RowKit

/-- A list of needs, in a block of needs. -/
def Nd (w : World) (v : Value) (L : List T3) : Prop := shT.R w v L ∧ ∀ b, v.ownBlock = some b → ∃ (cs : Array Value) (f : Nat × Nat), w.heap[b]? = some (Obj.cells cs tN f)
theorem Nd.nil (w : World) : Nd w (.slice none 0 0) [] := ⟨Sh.R.nil _ _, fun b h => by simp [Value.ownBlock] at h⟩
theorem Nd.of_O {w : World} {B : Nat} {v : Value} {L : List T3} (h : shT.O w B tN v L) : Nd w v L := ⟨h.r, fun b hb => by obtain ⟨cs, hc⟩ := h.tag b hb; exact ⟨cs, _, hc⟩⟩
theorem Nd.keepS {w w' : World} {v : Value} {L : List T3} {S : List Nat} (h : Nd w v L) (hk : Keeps S w w') (hS : ∀ b ∈ S, ∀ (cs : Array Value) (f : Nat × Nat), w.heap[b]? ≠ some (Obj.cells cs tN f)) : Nd w' v L := by
  refine ⟨h.1.keepS hk (fun b hb e => ?_), fun b hb => ?_⟩
  · obtain ⟨cs, f, hc⟩ := h.2 b e
    exact hS b hb cs f hc
  · obtain ⟨cs, f, hc⟩ := h.2 b hb
    exact ⟨cs, f, (hk.block b (lt_of_blk' hc) (fun hm => hS b hm cs f hc)).trans hc⟩
theorem Nd.keeps {w w' : World} {v : Value} {L : List T3} (h : Nd w v L) (hk : Keeps [] w w') : Nd w' v L := h.keepS hk (by simp)
theorem Nd.put {w w' : World} {v v' : Value} {L : List T3} {n : T3} (h : Nd w v L) (hk : Keeps [] w w') (hp : (v' = v ∧ putN n L = L) ∨ shT.O w' w.heap.size tN v' (putN n L)) : Nd w' v' (putN n L) := by
  rcases hp with ⟨rfl, e⟩ | hO
  · rw [e]; exact h.keeps hk
  · exact Nd.of_O hO
structure CRt (w : World) (x : ClV) (p : PCl) : Prop where
  m : x.m = p.m
  ep : x.ep = p.ep
  st : Nd w (slv x.v1) p.st
  sc : Nd w (slv x.v2) p.sc
  ch : Nd w (slv x.v3) p.ch
theorem CRt.keepS {w w' : World} {x : ClV} {p : PCl} {S : List Nat} (h : CRt w x p) (hk : Keeps S w w') (hS : ∀ b ∈ S, ∀ (cs : Array Value) (f : Nat × Nat), w.heap[b]? ≠ some (Obj.cells cs tN f)) : CRt w' x p := ⟨h.m, h.ep, h.st.keepS hk hS, h.sc.keepS hk hS, h.ch.keepS hk hS⟩
def Rows' (w : World) (C : List ClV) (P : List PCl) : Prop := C.length = P.length ∧ ∀ (j : Nat) (x : ClV) (p : PCl), C[j]? = some x → P[j]? = some p → CRt w x p
theorem Rows'.keepS {w w' : World} {C : List ClV} {P : List PCl} {S : List Nat} (h : Rows' w C P) (hk : Keeps S w w') (hS : ∀ b ∈ S, ∀ (cs : Array Value) (f : Nat × Nat), w.heap[b]? ≠ some (Obj.cells cs tN f)) : Rows' w' C P := ⟨h.1, fun j x p h1 h2 => (h.2 j x p h1 h2).keepS hk hS⟩
theorem Rows'.keeps {w w' : World} {C : List ClV} {P : List PCl} (h : Rows' w C P) (hk : Keeps [] w w') : Rows' w' C P := h.keepS hk (by simp)
theorem Rows'.snoc {w : World} {C : List ClV} {P : List PCl} {x : ClV} {p : PCl} (h : Rows' w C P) (hx : CRt w x p) : Rows' w (C ++ [x]) (P ++ [p]) := by
  obtain ⟨hl, hh⟩ := h
  refine ⟨by simp [hl], fun j a b ha hb => ?_⟩
  by_cases e : j < C.length
  · rw [List.getElem?_append_left e] at ha
    rw [List.getElem?_append_left (by omega)] at hb
    exact hh j a b ha hb
  · rw [List.getElem?_append_right (by omega)] at ha
    rw [List.getElem?_append_right (by omega), ← hl] at hb
    obtain ⟨i, hi⟩ : ∃ i, j - C.length = i := ⟨_, rfl⟩
    rw [hi] at ha hb
    cases i with
    | zero => simp at ha hb; subst ha hb; exact hx
    | succ i => simp at ha
theorem Rows'.setL {w : World} {C : List ClV} {R : List PCl} {c d : PCl} {y : ClV} {n : Nat} (h : Rows' w C (R ++ [c])) (hn : R.length = n) (hy : CRt w y d) : Rows' w (C.set n y) (R ++ [d]) := by
  obtain ⟨hl, hh⟩ := h
  refine ⟨by simpa using hl, fun j a b ha hb => ?_⟩
  rw [List.getElem?_set] at ha
  by_cases e : n = j
  · subst e
    rw [← hn, List.getElem?_append_right (Nat.le_refl _)] at hb
    simp at hb
    subst hb
    rw [if_pos rfl] at ha
    split at ha
    · cases ha; exact hy
    · cases ha
  · rw [if_neg e] at ha
    by_cases e2 : j < R.length
    · rw [List.getElem?_append_left e2] at hb
      exact hh j a b ha (by rw [List.getElem?_append_left e2]; exact hb)
    · have : j < C.length := (List.getElem?_eq_some_iff.1 ha).1
      simp at hl
      omega
theorem Rows'.lc {w : World} {v : Value} {C : List ClV} {P : List PCl} (h : Rows' w C P) (hR : shC.R w v C) : LC w v P := ⟨C, hR, h.1, fun k x p h1 h2 => by
  have := h.2 k x p h1 h2
  exact ⟨this.m, this.ep, this.st.1, this.sc.1, this.ch.1⟩⟩
theorem putN_len (n : T3) : ∀ l : List T3, (putN n l).length ≤ l.length + 1
  | [] => by simp [putN]
  | x :: r => by
    unfold putN
    split
    · have := putN_len n r; simp; omega
    · split
      · simp
      · simp
theorem scR_fold_len (t : Tr) (m : Int) : ∀ (l acc : List T3), (l.foldl (scR t m) acc).length ≤ acc.length + l.length
  | [], acc => by simp
  | x :: r, acc => by
    rw [List.foldl_cons]
    have h1 := scR_fold_len t m r (scR t m acc x)
    have h2 := putN_len (scN t m x) acc
    unfold scR at h1 h2 ⊢
    simp; omega
theorem refOf_len (t : Tr) (O : List (Qn × Int)) (Y : List Ans) (hY : ∀ a ∈ Y, a.ins.length ≤ 100000) : LenLe (refOf t O Y) (Y.length * 100001) := by
  induction Y using snoc_ind with
  | h0 => intro k hk; simp [refOf] at hk
  | hs Y a ih =>
    have ih := ih (fun b hb => hY b (by simp [hb]))
    have ha := hY a (by simp)
    have e : refOf t O (Y ++ [a]) = refC t O (refOf t O Y) a := by unfold refOf; rw [List.foldl_append]; rfl
    rw [e]
    have hb : (Y ++ [a]).length * 100001 = Y.length * 100001 + 100001 := by rw [List.length_append, List.length_singleton, Nat.add_mul, Nat.one_mul]
    rw [hb]
    obtain ⟨K, hK⟩ : ∃ K, Y.length * 100001 = K := ⟨_, rfl⟩
    rw [hK] at ih ⊢
    clear hK hb
    have h1 := ih.openC a
    obtain ⟨n, hn, _⟩ := openC_pos (refOf t O Y) a
    rcases nil_or_snoc (openC (refOf t O Y) a) with h | ⟨R, c, h⟩
    · rw [h] at hn; simp at hn
    · rw [refC_at h]
      rw [h] at h1
      have hR : ∀ k (hk : k < R.length) (j : Nat), j < 3 → (R[k].at j).length ≤ K := fun k hk j hj => by
        have := h1 k (by simp; omega) j hj
        rw [List.getElem_append_left hk] at this; exact this
      have hc : ∀ j, j < 3 → (c.at j).length ≤ K := fun j hj => by
        have := h1 R.length (by simp) j hj
        rw [List.getElem_append_right (Nat.le_refl _)] at this; simpa using this
      intro k hk j hj
      by_cases e2 : k < R.length
      · rw [List.getElem_append_left e2]; have := hR k e2 j hj; omega
      · have hkk : k = R.length := by simp at hk; omega
        subst hkk
        rw [List.getElem_append_right (Nat.le_refl _)]
        simp only [Nat.sub_self, List.getElem_cons_zero]
        match j, hj with
        | 0, _ =>
          have := hc 0 (by omega)
          simp only [PCl.at] at this
          show (stR O a c.st).length ≤ _
          unfold stR
          split
          · have := putN_len (a.ow, a.n, ‹Int›) c.st; omega
          · omega
        | 1, _ =>
          have := hc 1 (by omega)
          simp only [PCl.at] at this
          show (a.ins.foldl (scR t a.m) c.sc).length ≤ _
          have := scR_fold_len t a.m a.ins c.sc
          omega
        | 2, _ =>
          have := hc 2 (by omega)
          simp only [PCl.at] at this
          show (chR O a c.ch).length ≤ _
          unfold chR
          split
          · omega
          · have := putN_len (a.ow, a.n, 0) c.ch; omega
/-- Five cells of a row are stored. -/
theorem setRow5 {w : World} {B g n c : Nat} {L : List ClV} (h : shC.O w B tC (.slice (some ⟨g, 0, none⟩) n c) L) {k : Nat} (hk : k < L.length) (y : ClV) :
    shC.O (((((w.setCell ⟨g, k * 5, none⟩ (.int .i64 y.m)).setCell ⟨g, k * 5 + 1, none⟩ (.int .i64 y.ep)).setCell ⟨g, k * 5 + 2, none⟩ (slv y.v1)).setCell ⟨g, k * 5 + 3, none⟩ (slv y.v2)).setCell ⟨g, k * 5 + 4, none⟩ (slv y.v3)) B tC (.slice (some ⟨g, 0, none⟩) n c) (L.set k y) := by
  obtain ⟨z, hz⟩ : ∃ z, L[k] = z := ⟨_, rfl⟩
  have h1 := h.set hk { z with m := y.m } 0 (.int .i64 y.m) (by rw [hz]; rfl) (by decide) rfl
  have hk1 : k < (L.set k { z with m := y.m }).length := by simpa using hk
  have h2 := h1.set hk1 { z with m := y.m, ep := y.ep } 1 (.int .i64 y.ep) (by simp [shC, ClV.cs]) (by decide) rfl
  rw [List.set_set] at h2
  have h3 := h2.set (by simpa using hk) { z with m := y.m, ep := y.ep, v1 := y.v1 } 2 (slv y.v1) (by simp [shC, ClV.cs]) (by decide) rfl
  rw [List.set_set] at h3
  have h4 := h3.set (by simpa using hk) { z with m := y.m, ep := y.ep, v1 := y.v1, v2 := y.v2 } 3 (slv y.v2) (by simp [shC, ClV.cs]) (by decide) rfl
  rw [List.set_set] at h4
  have h5 := h4.set (by simpa using hk) y 4 (slv y.v3) (by simp [shC, ClV.cs]) (by decide) rfl
  rw [List.set_set] at h5
  exact h5
end Go.Proofs.YthfdngjbcgkkfaaGreat
