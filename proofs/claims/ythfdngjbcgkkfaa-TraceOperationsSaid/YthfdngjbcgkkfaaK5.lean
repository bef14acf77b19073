/- Texts that the laws lean on, in the order in which they build. Trace.claims. The specification's comparisons of needs and of claims. Trace.Claims; StateName. The example of the chapter, in plain Lean. StateName. The example of the chapter holds. TraceNames: the walk. -/
import Derived.Test.YthfdngjbcgkkfaaK4
import Derived.Deep.CutRange
set_option linter.unusedVariables false
set_option linter.unusedSimpArgs false
namespace Go.Proofs.Ythfdngjbcgkkfaa
open Go.RowKit

def ClaimsP (t : Tr) (Y : List Ans) (P : List PCl) : Prop :=
  P.length = (rawOf t (outsOf Y) Y).length ∧ ∀ (k : Nat) (h1 : k < P.length) (h2 : k < (rawOf t (outsOf Y) Y).length), P[k].m = (rawOf t (outsOf Y) Y)[k].m ∧ P[k].ep = (rawOf t (outsOf Y) Y)[k].ep ∧
    ∀ j, j < 3 → (P[k].at j).Perm ((rawOf t (outsOf Y) Y)[k].at j) ∧ (P[k].at j).Pairwise (fun x y => ¬ tlt y x)
def ClmPost (w : World) (t : Tr) (e : Ending) (w' : World) : Prop :=
  ∃ vc P V Bc Y, e = .returned vc ∧ w.heap.size ≤ Bc ∧ CL w' Bc vc P V ∧ SortedA t Y ∧ ClaimsP t Y P ∧ Keeps [] w w'
theorem SortedA.ok {w : World} {B bt bm : Nat} {vo vh vg : Value} {t : Tr} {Y : List Ans} (h : SortedA t Y) (hT : TrM w B bt bm vo vh vg t) : (∀ a ∈ Y, a.Ok) ∧ Y.length ≤ t.qs.length := by
  constructor
  · intro a ha
    have := h.1.mem_iff.1 ha
    obtain ⟨p, hp, rfl⟩ := List.mem_map.1 this
    exact hT.inv.ro p hp
  · have := h.1.length_eq
    rw [List.length_map] at this
    have h2 := (rec_len t.qs).1
    simp only [Tr.rec'] at this
    omega
theorem map_ki {w w' : World} {bE : Nat} (hk : Keeps [bE] w w') {es : Array _} {c : Nat} (hb : w.heap[bE]? = some (Obj.map es c)) : KI w w' := hk.ki (fun b hb2 cs f e => by
  simp at hb2; subst hb2
  rw [hb] at e; cases e)
set_option maxRecDepth 100000 in
set_option maxHeartbeats 40000000 in
theorem claims_c (w : World) (B bt bm : Nat) (vo vh vg : Value) (t : Tr) (h : TrM w B bt bm vo vh vg t) (hl : t.qs.length ≤ 1000) :
    Calls Try.prog 33 #[.pointer (some ⟨bt, 0, none⟩)] w (ClmPost w t) := by
  have hans := answers_c w B bt bm vo vh vg t h (by omega)
  have hmm := @run_makeMap Try.prog
  have hlt := h.lt
  replace hans := Lib.hid hans
  replace h := Lib.hid h
  go_enter Try.func33, Try.ntmps33
  go_wp2_with fail
  refine hans.out.mono ?_
  rintro e w1 ⟨va, X, Y, rfl, hX, hLA, hS, hk1⟩
  obtain ⟨aa, ac, rfl⟩ := hX.form
  obtain ⟨N, hN⟩ : ∃ n, X.length = n := ⟨_, rfl⟩
  have hNY : Y.length = N := by rw [← hLA.1, hN]
  obtain ⟨hYok, hYl⟩ := hS.ok h.out
  rw [hN] at hX ⊢
  have hN1 : N ≤ 1000 := by omega
  have hM := MapS.M.made ktE (vf := zV) w1
  have hkM : Keeps [] w1 (w1.alloc (.map #[] 0)) := (Keeps.refl _ _).alloc _
  have hX2 := hX.keeps hkM
  have hLA2 := hLA.ki hkM.ki0
  have hk2 := hk1.trans hkM
  have hbE := heap_alloc_new w1 (.map #[] 0)
  have hz2 : (w1.alloc (.map #[] 0)).heap.size = w1.heap.size + 1 := by simp
  replace hk1s := hk1.size
  replace hX := Lib.hid hX2
  replace hLA := Lib.hid hLA2
  replace hk2 := Lib.hid hk2
  replace hM := Lib.hid hM
  replace hbE := Lib.hid hbE
  replace hS := Lib.hid hS
  replace hYok := Lib.hid hYok
  replace hN := Lib.hid hN
  replace hNY := Lib.hid hNY
  clear hX2 hLA2 hk1 hkM hans
  go_wp2
  generalize (w1.alloc (.map #[] 0)) = w2 at *
  obtain ⟨bE, hbEe⟩ : ∃ b, w1.heap.size = b := ⟨_, rfl⟩
  rw [hbEe] at hM hbE hz2 hk1s ⊢
  clear hmm hbEe
  go_loopw [28] (fun i wr => ∃ k : Nat, i = .int .i64 k ∧ k ≤ N ∧ Hid (MapS.M ktE zV wr bE ((Y.take k).foldl outsA [])) ∧ Hid (Keeps [bE] w2 wr) ∧ Hid (((Y.take k).foldl outsA []).length ≤ k * 100000)) (fun i _ => N - (intOf i).toNat)
  case atStart => exact ⟨0, rfl, by omega, hM, Lib.hid (Keeps.refl _ _), Lib.hid (by simp)⟩
  case round =>
    obtain ⟨k, rfl, hk, hMr, hkr, hln⟩ := hrel
    by_cases hlt2 : k < N
    --DEV1
    · have hir := map_ki hkr.out hbE.out
      have hXr := hX.out.keepS hkr.out (fun b hb e => by
        simp at hb; subst hb
        obtain ⟨cs, hc⟩ := hX.out.tag _ e
        rw [hbE.out] at hc; cases hc)
      have hLAr := hLA.out.ki hir
      have hkX : k < X.length := by rw [hN.out]; exact hlt2
      have hkY : k < Y.length := by rw [hNY.out]; exact hlt2
      obtain ⟨g, o, c', hv, he⟩ := hXr.r.elem hkX
      rw [hN.out] at hv
      cases hv
      have hxy := hLAr.2 k X[k] Y[k] (List.getElem?_eq_getElem _) (List.getElem?_eq_getElem _)
      have hao := hYok.out Y[k] (List.getElem_mem _)
      have hst : (Y.take (k + 1)).foldl outsA [] = outsA ((Y.take k).foldl outsA []) Y[k] := foldl_succ _ _ _ _ hkY
      obtain ⟨a, hae⟩ : ∃ a, Y[k] = a := ⟨_, rfl⟩
      rw [hae] at hxy hao hst
      obtain ⟨x, hxe⟩ : ∃ x, X[k] = x := ⟨_, rfl⟩
      rw [hxe] at hxy he
      clear hXr hLAr hkX hae hxe hir
      obtain ⟨x0, x1, x2, x3, x4, x5, x6, x7, x8, x9⟩ := x
      have f0 := he 0 _ rfl
      have f1 := he 1 _ rfl
      have f2 := he 2 _ rfl
      have f3 := he 3 _ rfl
      have f4 := he 4 _ rfl
      have f5 := he 5 _ rfl
      have f6 := he 6 _ rfl
      have f7 := he 7 _ rfl
      simp only [shA, AnV.v, Nat.add_zero] at f0 f1 f2 f3 f4 f5 f6 f7
      have hx0 : x0 = a.m := hxy.m
      have hins := hxy.ins
      simp only [AnV.v] at hins
      have hx8 : x8 = a.ins.length := by obtain ⟨_, _, e, _⟩ := hins.r.form; cases e; rfl
      subst hx0
      replace hins := Lib.hid hins
      replace hao := Lib.hid hao
      replace hst := Lib.hid hst
      replace hx8 := Lib.hid hx8
      clear he hxy hkY
      go_wp2
      have hkA : Keeps [bE] wr (wr.alloc (.cells #[.int .i64 a.m, .int .i64 x1, .int .u64 x2, .int .i64 x3, .bool x4, .bool x5, .int .i64 x6, .slice x7 x8 x9] tA)) := (Keeps.refl _ _).alloc _
      have hkA0 : Keeps [] wr (wr.alloc (.cells #[.int .i64 a.m, .int .i64 x1, .int .u64 x2, .int .i64 x3, .bool x4, .bool x5, .int .i64 x6, .slice x7 x8 x9] tA)) := (Keeps.refl _ _).alloc _
      have hbA := heap_alloc_new wr (.cells #[.int .i64 a.m, .int .i64 x1, .int .u64 x2, .int .i64 x3, .bool x4, .bool x5, .int .i64 x6, .slice x7 x8 x9] tA)
      generalize (wr.alloc (.cells #[.int .i64 a.m, .int .i64 x1, .int .u64 x2, .int .i64 x3, .bool x4, .bool x5, .int .i64 x6, .slice x7 x8 x9] tA)) = WA at *
      obtain ⟨XA, hXA⟩ : ∃ b, wr.heap.size = b := ⟨_, rfl⟩
      have hkrA := hkr.out.trans hkA
      have hMA := hMr.out.keeps ktE hkA0
      have hinsA := hins.out.ki hkA0.ki0
      have hbEX : bE < XA := by have := hkr.out.size; omega
      rw [hXA] at hbA ⊢
      clear hXA
      obtain ⟨acc, hacc⟩ : ∃ acc, (Y.take k).foldl outsA [] = acc := ⟨_, rfl⟩
      rw [hacc] at hMA hln hst
      replace hacc := Lib.hid hacc
      replace hkrA := Lib.hid hkrA
      replace hMA := Lib.hid hMA
      replace hinsA := Lib.hid hinsA
      replace hbA := Lib.hid hbA
      have hx8l : x8 ≤ 100000 := by rw [hx8.out]; exact hao.out.len
      clear hkr hMr hins hkA hkA0 f0 f1 f2 f3 f4 f5 f6 f7
      go_loopw [35] (fun i wi => ∃ j : Nat, i = .int .i64 j ∧ j ≤ x8 ∧ Hid (MapS.M ktE zV wi bE ((a.ins.take j).foldl (outA a.m) acc)) ∧ Hid (Keeps [bE] WA wi)) (fun i _ => x8 - (intOf i).toNat)
      case atStart => exact ⟨0, rfl, by omega, hMA, Lib.hid (Keeps.refl _ _)⟩
      case round =>
        obtain ⟨j, rfl, hj, hMi, hki⟩ := hrel
        by_cases hlt3 : j < x8
        · obtain ⟨es, ec, hmap⟩ := hMA.out.isMap
          have hinsi := hinsA.out.ki (map_ki hki.out hmap)
          have hja : j < a.ins.length := by rw [← hx8.out]; exact hlt3
          obtain ⟨g2, o2, c2, hv2, he2⟩ := hinsi.r.elem hja
          rw [← hx8.out] at hv2
          cases hv2
          have hxo := hao.out.ins _ (List.getElem_mem hja)
          have hst2 : (a.ins.take (j + 1)).foldl (outA a.m) acc = outA a.m ((a.ins.take j).foldl (outA a.m) acc) a.ins[j] := foldl_succ _ _ _ _ hja
          obtain ⟨y, hye⟩ : ∃ y, a.ins[j] = y := ⟨_, rfl⟩
          rw [hye] at he2 hxo hst2
          obtain ⟨y0, y1, y2⟩ := y
          have f0 := he2 0 _ rfl
          have f1 := he2 1 _ rfl
          have f2 := he2 2 _ rfl
          simp only [shT, Nat.add_zero] at f0 f1 f2
          have hbi := (hki.out.block XA (lt_of_blk hbA.out) (by simp; omega)).trans hbA.out
          obtain ⟨z0, _, _, _, _, _, _, _, _, zlt⟩ := cells8 hbi
          have hqk : qOk (a.m, y0, y1) := ⟨hao.out.q.1, hxo.1, hxo.2.1⟩
          obtain ⟨aj, haj⟩ : ∃ aj, (a.ins.take j).foldl (outA a.m) acc = aj := ⟨_, rfl⟩
          have hajl : aj.length < maxLen := by
            rw [← haj]
            have h1 := out_fold_len a.m (a.ins.take j) acc
            have h2 := hln.out
            have h3 : (a.ins.take j).length ≤ a.ins.length := by simp; omega
            have h4 := hao.out.len
            have h5 : k * 100000 ≤ 1000 * 100000 := Nat.mul_le_mul_right _ (by omega)
            unfold maxLen; omega
          rw [haj] at hMi hst2
          have hMj := hMi.out.keeps ktE ((Keeps.refl [] wr).alloc (.cells #[.int .i64 y0, .int .u64 y1, .int .i64 y2] tI))
          have hkj : Keeps [bE] WA (wr.alloc (.cells #[.int .i64 y0, .int .u64 y1, .int .i64 y2] tI)) := hki.out.alloc _
          have hlk := MapS.M.look_ok ktE Try.underlying124 (zV 0) zeroZ hMj hqk
          obtain ⟨ov, hov⟩ : ∃ ov : Int, ((MapS.get (a.m, y0, y1) aj).map zV).getD (zV 0) = zV ov := by
            cases MapS.get (a.m, y0, y1) aj with
            | none => exact ⟨_, rfl⟩
            | some u => exact ⟨u, rfl⟩
          obtain ⟨ob, hob⟩ : ∃ ob, (MapS.get (a.m, y0, y1) aj).isSome = ob := ⟨_, rfl⟩
          rw [hov, hob] at hlk
          simp only [ktE, qV, zV] at hlk
          clear hov hinsi he2 hbi hmap hye
          cases ob with
          | true =>
            have hsame : outA a.m aj (y0, y1, y2) = aj := if_pos hob
            rw [hsame] at hst2
            rw [← hst2] at hMj
            replace hst2 := Lib.hid hst2
            replace hMj := Lib.hid hMj
            replace hkj := Lib.hid hkj
            replace hob := Lib.hid hob
            replace haj := Lib.hid haj
            replace hqk := Lib.hid hqk
            clear hsame
            go_wp2
            go_roundw
            case rel => exact ⟨j + 1, rfl, by omega, hMj, hkj⟩
            case measure => simp [intOf]; omega
          | false =>
            have hnew : outA a.m aj (y0, y1, y2) = aj ++ [((a.m, y0, y1), y2)] := if_neg (by simp [hob])
            rw [hnew] at hst2
            have hget : MapS.get (a.m, y0, y1) aj = none := by simpa using hob
            obtain ⟨wk, hrun, hMk, hkk⟩ := MapS.M.putNew ktE Try.underlying124 hMj hqk hget hajl y2
            rw [← hst2] at hMk
            have hkw := hkj.trans hkk
            simp only [ktE, qV, zV] at hrun
            replace hst2 := Lib.hid hst2
            replace hMk := Lib.hid hMk
            replace hkw := Lib.hid hkw
            replace hob := Lib.hid hob
            replace haj := Lib.hid haj
            replace hqk := Lib.hid hqk
            clear hnew hMj hkj hkk hget
            go_wp2
            go_roundw
            case rel => exact ⟨j + 1, rfl, by omega, hMk, hkw⟩
            case measure => simp [intOf]; omega
        · have hjx : j = x8 := by omega
          subst hjx
          have hfin : (a.ins.take j).foldl (outA a.m) acc = outsA acc a := by rw [hx8.out, foldl_all]; rfl
          rw [hfin, ← hst.out] at hMi
          have hkf := hkrA.out.trans hki.out
          have hlf : ((Y.take (k + 1)).foldl outsA []).length ≤ (k + 1) * 100000 := by
            rw [hst.out]
            have h1 := out_fold_len a.m a.ins acc
            have h2 := hln.out
            have h4 := hao.out.len
            unfold outsA
            rw [Nat.add_mul]
            omega
          replace hkf := Lib.hid hkf
          replace hlf := Lib.hid hlf
          clear hfin
          go_wp2
          go_roundw
          case rel => exact ⟨k + 1, rfl, by omega, hMi, hkf, hlf⟩
          case measure => simp [intOf]; omega
    --DEV2
    · have hkN : N = k := by omega
      subst hkN
      have hO0 : (Y.take N).foldl outsA [] = outsOf Y := by rw [← hNY.out, foldl_all]; rfl
      rw [hO0] at hMr
      obtain ⟨O, hOe⟩ : ∃ O, outsOf Y = O := ⟨_, rfl⟩
      rw [hOe] at hMr
      have hir := map_ki hkr.out hbE.out
      have hX3 := hX.out.keepS hkr.out (fun b hb e => by
        simp at hb; subst hb
        obtain ⟨cs, hc⟩ := hX.out.tag _ e
        rw [hbE.out] at hc; cases hc)
      have hLA3 := hLA.out.ki hir
      have hk03 : Keeps [] w wr := hk2.out.fresh hkr.out (fun b hb => by simp at hb; subst hb; exact .inr hk1s)
      have hT3 := h.out.keeps hk03
      have hbE3 := MapS.M.lt ktE hMr.out
      have hlt3 := hT3.lt
      have hwW := hk03.size
      replace hX := Lib.hid hX3
      replace hLA := Lib.hid hLA3
      replace hk03 := Lib.hid hk03
      replace hT3 := Lib.hid hT3
      replace hOe := Lib.hid hOe
      clear hX3 hLA3 hir hO0 hln hM hkr hk2 hbE hz2 hk1s h
      go_wp2
      generalize wr = W3 at *
      go_loopw [67, 11] (fun i cv wr => ∃ k : Nat, i = .int .i64 k ∧ k ≤ N ∧ ∃ V, Hid (CL wr W3.heap.size cv (rawOf t O (Y.take k)) V) ∧ Hid (Keeps [] W3 wr)) (fun i _ _ => N - (intOf i).toNat)
      case atStart => exact ⟨0, rfl, by omega, _, Lib.hid (CL.nil _ _ (fun _ _ => nilT)), Lib.hid (Keeps.refl _ _)⟩
      case round =>
        obtain ⟨k, rfl, hk, V, hC, hkr⟩ := hrel
        by_cases hlt2 : k < N
        --DEV1
        · have hXr := hX.out.keeps hkr.out
          have hLAr := hLA.out.ki hkr.out.ki0
          have hkX : k < X.length := by rw [hN.out]; exact hlt2
          have hkY : k < Y.length := by rw [hNY.out]; exact hlt2
          obtain ⟨g, o, c', hv, he⟩ := hXr.r.elem hkX
          rw [hN.out] at hv
          cases hv
          have hxy := hLAr.2 k X[k] Y[k] (List.getElem?_eq_getElem _) (List.getElem?_eq_getElem _)
          have hao := hYok.out Y[k] (List.getElem_mem _)
          have hst : rawOf t O (Y.take (k + 1)) = rawC t O (rawOf t O (Y.take k)) Y[k] := foldl_succ _ _ _ _ hkY
          obtain ⟨hbd, hPl⟩ := rawOf_take t O Y (fun a ha => (hYok.out a ha).len) k (by omega)
          obtain ⟨a, hae⟩ : ∃ a, Y[k] = a := ⟨_, rfl⟩
          rw [hae] at hxy hao hst
          obtain ⟨x, hxe⟩ : ∃ x, X[k] = x := ⟨_, rfl⟩
          rw [hxe] at hxy he
          obtain ⟨P, hP⟩ : ∃ P, rawOf t O (Y.take k) = P := ⟨_, rfl⟩
          rw [hP] at hC hst hbd hPl
          clear hXr hLAr hkX hae hxe
          obtain ⟨x0, x1, x2, x3, x4, x5, x6, x7, x8, x9⟩ := x
          have f0 := he 0 _ rfl
          have f1 := he 1 _ rfl
          have f2 := he 2 _ rfl
          have f3 := he 3 _ rfl
          have f4 := he 4 _ rfl
          have f5 := he 5 _ rfl
          have f6 := he 6 _ rfl
          have f7 := he 7 _ rfl
          simp only [shA, AnV.v, Nat.add_zero] at f0 f1 f2 f3 f4 f5 f6 f7
          have hx0 : x0 = a.m := hxy.m
          have hx1 : x1 = a.ow := hxy.ow
          have hx2 : x2 = a.n := hxy.n
          have hx3 : x3 = a.ep := hxy.ep
          have hins := hxy.ins
          simp only [AnV.v] at hins
          have hx8 : x8 = a.ins.length := by obtain ⟨_, _, e, _⟩ := hins.r.form; cases e; rfl
          subst hx0 hx1 hx2 hx3
          obtain ⟨ca, cc, rfl⟩ := hC.out.c.form
          obtain ⟨Pl, hPle⟩ : ∃ n, P.length = n := ⟨_, rfl⟩
          rw [rowsC_len, hPle] at hC ⊢
          have hPl2 : Pl ≤ 1000 := by omega
          replace hins := Lib.hid hins
          replace hao := Lib.hid hao
          replace hst := Lib.hid hst
          replace hx8 := Lib.hid hx8
          replace hbd := Lib.hid hbd
          replace hP := Lib.hid hP
          replace hPle := Lib.hid hPle
          clear he hxy hkY hPl
          go_wp2
          have hkA0 : Keeps [] wr (wr.alloc (.cells #[.int .i64 a.m, .int .i64 a.ow, .int .u64 a.n, .int .i64 a.ep, .bool x4, .bool x5, .int .i64 x6, .slice x7 x8 x9] tA)) := (Keeps.refl _ _).alloc _
          have hbA := heap_alloc_new wr (.cells #[.int .i64 a.m, .int .i64 a.ow, .int .u64 a.n, .int .i64 a.ep, .bool x4, .bool x5, .int .i64 x6, .slice x7 x8 x9] tA)
          generalize (wr.alloc (.cells #[.int .i64 a.m, .int .i64 a.ow, .int .u64 a.n, .int .i64 a.ep, .bool x4, .bool x5, .int .i64 x6, .slice x7 x8 x9] tA)) = WA at *
          have hW3r := hkr.out.size
          obtain ⟨XA, hXA⟩ : ∃ b, wr.heap.size = b := ⟨_, rfl⟩
          have hkA := hkr.out.trans hkA0
          have hCA := hC.out.keeps hkA0
          have hinsA := hins.out.ki hkA0.ki0
          rw [hXA] at hbA hW3r ⊢
          have hCB : B ≤ 0 ∨ True := .inr trivial
          clear hXA hCB
          replace hkA := Lib.hid hkA
          replace hCA := Lib.hid hCA
          replace hinsA := Lib.hid hinsA
          replace hbA := Lib.hid hbA
          have hx8l : x8 ≤ 100000 := by rw [hx8.out]; exact hao.out.len
          clear hkr hC hins hkA0 f0 f1 f2 f3 f4 f5 f6 f7
          go_cut [85] from 68 to 184 (fun b wx => b = .bool (newC P a) ∧ wx = WA.drew)
          case first =>
            obtain ⟨y0, y1, y2, y3, y4, y5, y6, y7, yf, ylt⟩ := cells8 hbA.out
            cases Pl with
            | zero =>
              have hnb := newC_nil hPle.out a
              replace hnb := Lib.hid hnb
              refine Free.wp_region_chain (fun i => false) (fun i => true) (fun _ _ => False) (by kernel_rfl) (by kernel_rfl) (by kernel_rfl) ?_
              (repeat (first | (apply Free.cw_pureW rfl rfl; (intro w'; go_simp <;> exact rfl); go_frame) | (apply Free.cw_steadyW rfl rfl rfl; (intro w' hS; have q0 := Free.sx_cell hS y0 (fun _ _ hT => hT); go_simp <;> exact rfl); go_frame) | (refine Free.cw_skip rfl ?_; go_frame)))
              refine Free.cw_nil ?_
              go_wp2
              go_meet
              case rel => exact ⟨by rw [hnb.out], rfl⟩
            | succ n =>
              have hnb := newC_at hPle.out a
              have hwn : IntKind.i64.wrap (n : Int) = (n : Int) := IntWalk.i64_in _ (by omega)
              have hnn : (n : Int) < (n : Int) + 1 := by omega
              obtain ⟨gc, cc', ev, hgB, hgl, m0, m1, m2, m3, m4, mf⟩ := hCA.out.row (k := n) (by rw [hPle.out]; omega)
              rw [hPle.out] at ev
              cases ev
              replace hnb := Lib.hid hnb
              refine Free.wp_region_chain (fun i => false) (fun i => true) (fun _ _ => False) (by kernel_rfl) (by kernel_rfl) (by kernel_rfl) ?_
              (repeat (first | (apply Free.cw_pureW rfl rfl; (intro w'; go_simp <;> exact rfl); go_frame) | (apply Free.cw_steadyW rfl rfl rfl; (intro w' hS; have q0 := Free.sx_cell hS y0 (fun _ _ hT => hT); have q1 := Free.sx_cell hS m0 (fun _ _ hT => hT); go_simp <;> exact rfl); go_frame) | (refine Free.cw_skip rfl ?_; go_frame)))
              refine Free.cw_nil ?_
              go_wp2
              go_meet
              case rel =>
                have hz : ((n : Int) + 1 == 0) = false := by simp; omega
                exact ⟨by rw [hnb.out, hz, Bool.false_or], rfl⟩
          case rest =>
            obtain ⟨rfl, rfl⟩ := hcut
            have hCD := hCA.out.keeps ((Keeps.refl [] WA).drew)
            have hkD : Keeps [] WA WA.drew := (Keeps.refl [] WA).drew
            have hbD := (hkD.block XA (lt_of_blk hbA.out) (by simp)).trans hbA.out
            have hWl : W3.heap.size ≤ WA.drew.heap.size := (hkA.out.trans hkD).size
            generalize WA.drew = WD at *
            replace hCD := Lib.hid hCD
            replace hkD := Lib.hid hkD
            replace hbD := Lib.hid hbD
            clear hCA
            go_upto_if 85 with fail
            go_cut [11] from 68 to 184 (fun cv wx => ∃ V1, Hid (CL wx W3.heap.size cv (openC P a) V1) ∧ Hid (Keeps [] W3 wx) ∧ Hid (KO WD wx))
            case first =>
              obtain ⟨nb, hnb⟩ : ∃ b, newC P a = b := ⟨_, rfl⟩
              rw [hnb]
              obtain ⟨y0, y1, y2, y3, y4, y5, y6, y7, yf, ylt⟩ := cells8 hbD.out
              cases nb with
              | true =>
                have hopen := openC_new hnb
                have hk1 := (Keeps.refl [] WD).alloc (.cells #[.int .i64 a.m, .int .i64 a.ep, .slice none 0 0, .slice none 0 0, .slice none 0 0] tC)
                have hmade := Sh.O.one shC WD (⟨a.m, a.ep, nilT, nilT, nilT⟩ : ClV) #[.int .i64 a.m, .int .i64 a.ep, .slice none 0 0, .slice none 0 0, .slice none 0 0] tC 0 rfl (by omega)
                have hC1 := hCD.out.keeps hk1
                replace hopen := Lib.hid hopen
                replace hk1 := Lib.hid hk1
                replace hmade := Lib.hid hmade
                replace hC1 := Lib.hid hC1
                replace hnb := Lib.hid hnb
                go_wp2_with (at_builtin; go_loud (refine Sh.wpl_app shC W3.heap.size infoC rfl Try.underlying39 (.slice ca Pl cc) (.slice (some ⟨WD.heap.size, 0, none⟩) 1 1) (rowsC P V) [(⟨a.m, a.ep, nilT, nilT, nilT⟩ : ClV)] rfl _ _ rfl rfl rfl hC1.out.c hmade.out.r (by rw [rowsC_len, hPle.out]; simp; omega) (by simp; omega) ?_; intro v5 w5 hO5 hG5; have hC5 := hC1.out.push a.m a.ep hG5 hO5; have hk5 := Grw.keeps ((hkA.out.trans hkD.out).trans hk1.out) hG5 (fun b hb => hC1.out.c.ge b hb); have hko := (KO.nil hk1.out).trans (KO.grwC hG5 hC1.out.c); rw [← hopen.out] at hC5; replace hC5 := Lib.hid hC5; replace hk5 := Lib.hid hk5; replace hko := Lib.hid hko; clear hG5 hO5))
                go_wp2
                go_meet
                case rel => exact ⟨_, hC5, hk5, hko⟩
              | false =>
                have hopen := openC_old hnb
                go_wp2
                go_meet
                case rel => exact ⟨V, by rw [hopen]; exact hCD, Lib.hid (hkA.out.trans hkD.out), Lib.hid (KO.nil (Keeps.refl _ _))⟩
            case rest =>
              obtain ⟨V1, hC1, hk1, hko1⟩ := hcut
              obtain ⟨n, hn1, hnP⟩ := openC_pos P a
              have hPl3 : n ≤ 1000 := by rw [hPle.out] at hnP; omega
              obtain ⟨gc, cc1, ev, hgB, hgl, m0, m1, m2, m3, m4, mf⟩ := hC1.out.row (k := n) (by omega)
              rw [hn1] at ev
              subst ev
              have hbC := (hko1.out.2 XA _ _ _ hbD.out (by decide) (by decide)).trans hbD.out
              have hinsC := hinsA.out.ki (hkD.out.ki0.trans hko1.out.ki)
              have hMC := hMr.out.keeps ktE hk1.out
              obtain ⟨y0, y1, y2, y3, y4, y5, y6, y7, yf, ylt⟩ := cells8 hbC
              have hqk : qOk (a.ow, a.m, a.n) := ⟨hao.out.q.2.1, hao.out.q.1, hao.out.q.2.2⟩
              have hlk := MapS.M.look_ok ktE Try.underlying124 (zV 0) zeroZ hMC hqk
              have hXg : XA ≠ gc := fun e => by
                subst e
                obtain ⟨cs, hc⟩ := hC1.out.c.tag XA (by simp [Value.ownBlock])
                exact tag_ne hbC hc (by decide) rfl
              have hwn : IntKind.i64.wrap (n : Int) = (n : Int) := IntWalk.i64_in _ (by omega)
              obtain ⟨go, hgo⟩ : ∃ go, MapS.get (a.ow, a.m, a.n) O = go := ⟨_, rfl⟩
              rw [hgo] at hlk
              obtain ⟨ov, hov⟩ : ∃ ov : Int, (go.map zV).getD (zV 0) = zV ov ∧ (∀ u, go = some u → u = ov) := by
                cases go with
                | none => exact ⟨_, rfl, fun u h => by cases h⟩
                | some u => exact ⟨u, rfl, fun v h => by cases h; rfl⟩
              obtain ⟨ob, hob⟩ : ∃ ob, go.isSome = ob := ⟨_, rfl⟩
              rw [hov.1, hob] at hlk
              simp only [ktE, qV, zV] at hlk
              have hW3c := hk1.out.size
              replace hov := Lib.hid hov
              replace hgo := Lib.hid hgo
              replace hob := Lib.hid hob
              replace hqk := Lib.hid hqk
              replace hbC := Lib.hid hbC
              replace hinsC := Lib.hid hinsC
              replace hn1 := Lib.hid hn1
              clear hMC hbA hinsA hCD hbD hkD hWl hkA hko1
              go_upto_if 111 with fail
              replace hn1 := hn1.out
              go_cut [] from 68 to 184 (fun wx => ∃ V2, Hid (CL wx W3.heap.size (.slice (some ⟨gc, 0, none⟩) (n + 1) cc1) (needC O (openC P a) a) V2) ∧ Hid (Keeps [] W3 wx) ∧ Hid (KO wc wx))
              case first =>
                cases ob with
                | true =>
                  have hget : MapS.get (a.ow, a.m, a.n) O = some ov := by
                    obtain ⟨u, hu⟩ := Option.isSome_iff_exists.1 hob.out
                    rw [hgo.out, hu, hov.out.2 u hu]
                  obtain ⟨⟨sa, sn, sc⟩, hv0⟩ : ∃ x, V1 n 0 = x := ⟨_, rfl⟩
                  have hOn := hC1.out.o n 0 (by omega) (by omega)
                  have hng := fun b (e : (slv (V1 n 0)).ownBlock = some b) => hC1.out.ne (by omega) (by omega) e
                  have hll := (hbd.out.openC a) n (by omega) 0 (by omega)
                  rw [hv0] at hOn hng m2
                  simp only [slv] at hOn hng m2
                  have hne1 : ∀ b, (Value.slice sa sn sc).ownBlock = some b → b ≠ gc := fun b e e2 => hng b e (by simp [Value.ownBlock, e2])
                  have hne2 : ∀ b, (Value.slice sa sn sc).ownBlock = some b → b ≠ XA := fun b e e2 => by
                    subst e2
                    obtain ⟨cs, hc⟩ := hOn.tag _ e
                    exact tag_ne hc hbC.out (by decide) rfl
                  have hneed : (openC P a).set n ((openC P a)[n].upd 0 ((openC P a)[n].at 0 ++ [(a.ow, a.n, ov)])) = needC O (openC P a) a := by
                    unfold needC
                    rw [hget]
                    exact (updL_at hn1 0 (fun l => l ++ [(a.ow, a.n, ov)])).symm
                  replace hne1 := Lib.hid hne1
                  replace hne2 := Lib.hid hne2
                  replace hOn := Lib.hid hOn
                  replace hll := Lib.hid hll
                  replace hneed := Lib.hid hneed
                  clear hng
                  go_wp2
                  refine Free.wp_region_chain (fun i => i == 11 || i == 12 || i == 15) (fun i => true) (fun j b => (j = 12 ∧ (Value.slice sa sn sc).ownBlock = some b) ∨ (j = 15 ∧ b = gc)) (by kernel_rfl) (by kernel_rfl) (by kernel_rfl) ?_
                  (repeat (first | (apply Free.cw_pure rfl rfl; (intro w'; go_simp <;> exact rfl); go_frame) | (apply Free.cw_steady rfl rfl rfl; (intro w' hS; have q0 := Free.sx_cell hS m2 (fun j hp hT => Or.elim hT (fun h => hne1.out _ h.2 rfl) (fun h => by obtain ⟨rfl, _⟩ := h; exact absurd hp (by decide +kernel))); have q1 := Free.sx_cell hS y1 (fun j hp hT => Or.elim hT (fun h => hne2.out _ h.2 rfl) (fun h => hXg h.2)); have q2 := Free.sx_cell hS y2 (fun j hp hT => Or.elim hT (fun h => hne2.out _ h.2 rfl) (fun h => hXg h.2)); go_simp <;> exact rfl); go_frame) | (refine Free.cw_skip rfl ?_; go_frame)))
                  refine Free.cw_loud rfl rfl (fun K hK => ?_)
                  go_wp2
                  refine hK _ _ rfl (Free.KeepsP.alloc _ _ _) ?_
                  clear hK K
                  (repeat (apply Free.cw_pure rfl rfl; (intro w'; go_simp <;> exact rfl); go_frame))
                  refine Free.cw_loud rfl rfl (fun K hK => ?_)
                  have hkE : Keeps [] wc ((wc.alloc (.cells #[.int .i64 a.ow, .int .u64 a.n, .int .i64 ov] tN)).drew) := ((Keeps.refl _ _).alloc _).drew
                  have hmade := (Sh.O.one shT wc (a.ow, a.n, ov) #[.int .i64 a.ow, .int .u64 a.n, .int .i64 ov] tN 0 rfl (by omega)).keeps ((Keeps.refl [] _).drew)
                  have hOE := hOn.out.keeps hkE
                  have hCE := hC1.out.keeps hkE
                  have hlE := hkE.size
                  refine Sh.wp_app shT W3.heap.size infoN rfl Try.underlying42 (.slice sa sn sc) (.slice (some ⟨wc.heap.size, 0, none⟩) 1 1) ((openC P a)[n].at 0) [(a.ow, a.n, ov)] _ _ rfl rfl rfl hOE hmade.r (by have := hll.out; simp only [List.length_cons, List.length_nil]; omega) (Nat.le_trans hk1.out.size hlE) ?_
                  intro v5 w5 hO5 hG5
                  obtain ⟨a5, c5, rfl⟩ := hO5.form
                  obtain ⟨N5, hN5⟩ : ∃ q, ((openC P a)[n].at 0 ++ [(a.ow, a.n, ov)]).length = q := ⟨_, rfl⟩
                  rw [hN5] at hO5 hG5 ⊢
                  refine hK _ _ rfl (Free.KeepsP.of hG5.keepsO (fun b hb => .inl ⟨rfl, by simpa using hb⟩)) ?_
                  clear hK K
                  have hC6 := hCE.app (k := n) (j := 0) (by omega) (by omega) (v' := (a5, N5, c5)) (by rw [hv0]; exact hG5) hO5
                  rw [hneed.out] at hC6
                  have hng5 : gc ∉ (Value.slice sa sn sc).ownBlock.toList := fun hm => hne1.out gc (by simpa using hm) rfl
                  have hgl5 : gc < ((wc.alloc (.cells #[.int .i64 a.ow, .int .u64 a.n, .int .i64 ov] tN)).drew).heap.size := Nat.lt_of_lt_of_le hgl hlE
                  have m5 := (hG5.keepsO.cell gc (n * 5 + 2) hgl5 hng5).trans (hkE.val m2)
                  have f5 := (hG5.keepsO.frozen gc (n * 5 + 2) hgl5 hng5).trans ((hkE.frozen gc (n * 5 + 2) hgl (by simp)).trans (mf _))
                  have hkS : Keeps [gc] w5 (w5.setCell ⟨gc, n * 5 + (2 + 0), none⟩ (.slice a5 N5 c5)) := (Keeps.refl _ _).setCell (.inr (by simp)) _
                  have hk6 : Keeps [] W3 (w5.setCell ⟨gc, n * 5 + (2 + 0), none⟩ (.slice a5 N5 c5)) := (Grw.keeps (hk1.out.trans hkE) hG5 (fun b hb => hOE.ge b hb)).fresh hkS (fun b hb => by simp at hb; subst hb; exact .inr hgB)
                  have hko6 : KO wc (w5.setCell ⟨gc, n * 5 + (2 + 0), none⟩ (.slice a5 N5 c5)) := ((KO.nil hkE).trans (KO.grwN hG5 hOE)).trans (KO.of hkS (fun b hb => by
                    simp at hb; subst hb
                    obtain ⟨cs, hc⟩ := hCE.c.tag b (by simp [Value.ownBlock])
                    exact ⟨cs, _, _, (hG5.keepsO.block b hgl5 hng5).trans hc, .inl rfl⟩))
                  have hgl6 := lt_of_cell m5
                  replace hC6 := Lib.hid hC6
                  replace hk6 := Lib.hid hk6
                  replace hko6 := Lib.hid hko6
                  replace hkS := Lib.hid hkS
                  clear hO5 hG5 hmade hOE hCE hkE hlE hng5 hgl5
                  (repeat (apply Free.cw_pure rfl rfl; (intro w'; go_simp <;> exact rfl); go_frame))
                  refine Free.cw_loud rfl rfl (fun K hK => ?_)
                  go_wp2
                  refine hK _ _ rfl (Free.KeepsP.of hkS.out (fun b hb => .inr ⟨trivial, by simpa using hb⟩)) ?_
                  clear hK K
                  refine Free.cw_nil ?_
                  go_wp2
                  go_meet
                  case rel => exact ⟨_, hC6, hk6, hko6⟩
                | false =>
                  have hget : MapS.get (a.ow, a.m, a.n) O = none := by
                    rw [hgo.out]; simpa using hob.out
                  obtain ⟨⟨sa, sn, sc⟩, hv0⟩ : ∃ x, V1 n 2 = x := ⟨_, rfl⟩
                  have hOn := hC1.out.o n 2 (by omega) (by omega)
                  have hng := fun b (e : (slv (V1 n 2)).ownBlock = some b) => hC1.out.ne (by omega) (by omega) e
                  have hll := (hbd.out.openC a) n (by omega) 2 (by omega)
                  rw [hv0] at hOn hng m4
                  simp only [slv] at hOn hng m4
                  have hne1 : ∀ b, (Value.slice sa sn sc).ownBlock = some b → b ≠ gc := fun b e e2 => hng b e (by simp [Value.ownBlock, e2])
                  have hne2 : ∀ b, (Value.slice sa sn sc).ownBlock = some b → b ≠ XA := fun b e e2 => by
                    subst e2
                    obtain ⟨cs, hc⟩ := hOn.tag _ e
                    exact tag_ne hc hbC.out (by decide) rfl
                  have hneed : (openC P a).set n ((openC P a)[n].upd 2 ((openC P a)[n].at 2 ++ [(a.ow, a.n, 0)])) = needC O (openC P a) a := by
                    unfold needC
                    rw [hget]
                    exact (updL_at hn1 2 (fun l => l ++ [(a.ow, a.n, 0)])).symm
                  replace hne1 := Lib.hid hne1
                  replace hne2 := Lib.hid hne2
                  replace hOn := Lib.hid hOn
                  replace hll := Lib.hid hll
                  replace hneed := Lib.hid hneed
                  clear hng
                  go_wp2
                  refine Free.wp_region_chain (fun i => i == 10 || i == 11 || i == 14) (fun i => true) (fun j b => (j = 11 ∧ (Value.slice sa sn sc).ownBlock = some b) ∨ (j = 14 ∧ b = gc)) (by kernel_rfl) (by kernel_rfl) (by kernel_rfl) ?_
                  (repeat (first | (apply Free.cw_pure rfl rfl; (intro w'; go_simp <;> exact rfl); go_frame) | (apply Free.cw_steady rfl rfl rfl; (intro w' hS; have q0 := Free.sx_cell hS m4 (fun j hp hT => Or.elim hT (fun h => hne1.out _ h.2 rfl) (fun h => by obtain ⟨rfl, _⟩ := h; exact absurd hp (by decide +kernel))); have q1 := Free.sx_cell hS y1 (fun j hp hT => Or.elim hT (fun h => hne2.out _ h.2 rfl) (fun h => hXg h.2)); have q2 := Free.sx_cell hS y2 (fun j hp hT => Or.elim hT (fun h => hne2.out _ h.2 rfl) (fun h => hXg h.2)); go_simp <;> exact rfl); go_frame) | (refine Free.cw_skip rfl ?_; go_frame)))
                  refine Free.cw_loud rfl rfl (fun K hK => ?_)
                  go_wp2
                  refine hK _ _ rfl (Free.KeepsP.alloc _ _ _) ?_
                  clear hK K
                  (repeat (apply Free.cw_pure rfl rfl; (intro w'; go_simp <;> exact rfl); go_frame))
                  refine Free.cw_loud rfl rfl (fun K hK => ?_)
                  have hkE : Keeps [] wc ((wc.alloc (.cells #[.int .i64 a.ow, .int .u64 a.n, .int .i64 0] tN)).drew) := ((Keeps.refl _ _).alloc _).drew
                  have hmade := (Sh.O.one shT wc (a.ow, a.n, 0) #[.int .i64 a.ow, .int .u64 a.n, .int .i64 0] tN 0 rfl (by omega)).keeps ((Keeps.refl [] _).drew)
                  have hOE := hOn.out.keeps hkE
                  have hCE := hC1.out.keeps hkE
                  have hlE := hkE.size
                  refine Sh.wp_app shT W3.heap.size infoN rfl Try.underlying42 (.slice sa sn sc) (.slice (some ⟨wc.heap.size, 0, none⟩) 1 1) ((openC P a)[n].at 2) [(a.ow, a.n, 0)] _ _ rfl rfl rfl hOE hmade.r (by have := hll.out; simp only [List.length_cons, List.length_nil]; omega) (Nat.le_trans hk1.out.size hlE) ?_
                  intro v5 w5 hO5 hG5
                  obtain ⟨a5, c5, rfl⟩ := hO5.form
                  obtain ⟨N5, hN5⟩ : ∃ q, ((openC P a)[n].at 2 ++ [(a.ow, a.n, 0)]).length = q := ⟨_, rfl⟩
                  rw [hN5] at hO5 hG5 ⊢
                  refine hK _ _ rfl (Free.KeepsP.of hG5.keepsO (fun b hb => .inl ⟨rfl, by simpa using hb⟩)) ?_
                  clear hK K
                  have hC6 := hCE.app (k := n) (j := 2) (by omega) (by omega) (v' := (a5, N5, c5)) (by rw [hv0]; exact hG5) hO5
                  rw [hneed.out] at hC6
                  have hng5 : gc ∉ (Value.slice sa sn sc).ownBlock.toList := fun hm => hne1.out gc (by simpa using hm) rfl
                  have hgl5 : gc < ((wc.alloc (.cells #[.int .i64 a.ow, .int .u64 a.n, .int .i64 0] tN)).drew).heap.size := Nat.lt_of_lt_of_le hgl hlE
                  have m5 := (hG5.keepsO.cell gc (n * 5 + 4) hgl5 hng5).trans (hkE.val m4)
                  have f5 := (hG5.keepsO.frozen gc (n * 5 + 4) hgl5 hng5).trans ((hkE.frozen gc (n * 5 + 4) hgl (by simp)).trans (mf _))
                  have hkS : Keeps [gc] w5 (w5.setCell ⟨gc, n * 5 + (2 + 2), none⟩ (.slice a5 N5 c5)) := (Keeps.refl _ _).setCell (.inr (by simp)) _
                  have hk6 : Keeps [] W3 (w5.setCell ⟨gc, n * 5 + (2 + 2), none⟩ (.slice a5 N5 c5)) := (Grw.keeps (hk1.out.trans hkE) hG5 (fun b hb => hOE.ge b hb)).fresh hkS (fun b hb => by simp at hb; subst hb; exact .inr hgB)
                  have hko6 : KO wc (w5.setCell ⟨gc, n * 5 + (2 + 2), none⟩ (.slice a5 N5 c5)) := ((KO.nil hkE).trans (KO.grwN hG5 hOE)).trans (KO.of hkS (fun b hb => by
                    simp at hb; subst hb
                    obtain ⟨cs, hc⟩ := hCE.c.tag b (by simp [Value.ownBlock])
                    exact ⟨cs, _, _, (hG5.keepsO.block b hgl5 hng5).trans hc, .inl rfl⟩))
                  have hgl6 := lt_of_cell m5
                  replace hC6 := Lib.hid hC6
                  replace hk6 := Lib.hid hk6
                  replace hko6 := Lib.hid hko6
                  replace hkS := Lib.hid hkS
                  clear hO5 hG5 hmade hOE hCE hkE hlE hng5 hgl5
                  (repeat (apply Free.cw_pure rfl rfl; (intro w'; go_simp <;> exact rfl); go_frame))
                  refine Free.cw_loud rfl rfl (fun K hK => ?_)
                  go_wp2
                  refine hK _ _ rfl (Free.KeepsP.of hkS.out (fun b hb => .inr ⟨trivial, by simpa using hb⟩)) ?_
                  clear hK K
                  refine Free.cw_nil ?_
                  go_wp2
                  go_meet
                  case rel => exact ⟨_, hC6, hk6, hko6⟩
              case rest =>
                obtain ⟨V2, hC2, hk2c, hko2⟩ := hcut
                have hbC2 := (hko2.out.2 XA _ _ _ hbC.out (by decide) (by decide)).trans hbC.out
                have hinsC2 := hinsC.out.ki hko2.out.ki
                obtain ⟨P2, hP2⟩ : ∃ P2, needC O (openC P a) a = P2 := ⟨_, rfl⟩
                have hbd2 : LenLe P2 (k * 100001 + 1) := by rw [← hP2]; exact (hbd.out.openC a).needC O a
                have hn2 : P2.length = n + 1 := by rw [← hP2, needC_len]; exact hn1
                have hst2 : rawOf t O (Y.take (k + 1)) = a.ins.foldl (scC t a.m) P2 := by rw [hst.out, ← hP2]; rfl
                rw [hP2] at hC2
                obtain ⟨y0, y1, y2, y3, y4, y5, y6, y7, yf, ylt⟩ := cells8 hbC2
                obtain ⟨R, hR, hRL⟩ := hT3.out.mp
                have c7 := hT3.out.cells.2.2.2.2.2.2.2.1
                replace hbC2 := Lib.hid hbC2
                replace hinsC2 := Lib.hid hinsC2
                replace hbd2 := Lib.hid hbd2
                replace hn2 := Lib.hid hn2
                replace hst2 := Lib.hid hst2
                replace hR := Lib.hid hR
                replace hRL := Lib.hid hRL
                replace c7 := Lib.hid c7
                clear hbC hinsC hko2 hP2 hC1 m0 m1 m2 m3 m4 mf hlk hXg hk1 hn1 hW3c hst hgl
                go_wp2
                have hW3c := hk2c.out.size
                go_loopw [144] (fun i wl => ∃ j : Nat, i = .int .i64 j ∧ j ≤ x8 ∧ ∃ V3, Hid (CL wl W3.heap.size (.slice (some ⟨gc, 0, none⟩) (n + 1) cc1) ((a.ins.take j).foldl (scC t a.m) P2) V3) ∧ Hid (Keeps [] W3 wl) ∧ Hid (KO wc wl)) (fun i _ => x8 - (intOf i).toNat)
                case atStart => exact ⟨0, rfl, by omega, V2, hC2, hk2c, Lib.hid (KO.nil (Keeps.refl _ _))⟩
                case round =>
                  obtain ⟨j, rfl, hj, V3, hC3, hk3, hko3⟩ := hrel
                  by_cases hlt3 : j < x8
                  · have hja : j < a.ins.length := by rw [← hx8.out]; exact hlt3
                    obtain ⟨g2, o2, c2, hv2, he2⟩ := (hinsC2.out.ki hko3.out.ki).r.elem hja
                    rw [← hx8.out] at hv2
                    cases hv2
                    have hxo := hao.out.ins _ (List.getElem_mem hja)
                    have hst3 : (a.ins.take (j + 1)).foldl (scC t a.m) P2 = scC t a.m ((a.ins.take j).foldl (scC t a.m) P2) a.ins[j] := foldl_succ _ _ _ _ hja
                    have hbd3 : LenLe ((a.ins.take j).foldl (scC t a.m) P2) (k * 100001 + 1 + (a.ins.take j).length) := LenLe.scs t a.m hbd2.out
                    have hn3 : ((a.ins.take j).foldl (scC t a.m) P2).length = n + 1 := by rw [sc_fold_len]; exact hn2.out
                    have htl : (a.ins.take j).length = j := by rw [List.length_take]; omega
                    rw [htl] at hbd3
                    obtain ⟨Q, hQ⟩ : ∃ Q, (a.ins.take j).foldl (scC t a.m) P2 = Q := ⟨_, rfl⟩
                    rw [hQ] at hC3 hst3 hbd3 hn3
                    obtain ⟨y, hye⟩ : ∃ y, a.ins[j] = y := ⟨_, rfl⟩
                    rw [hye] at he2 hxo hst3
                    obtain ⟨e0, e1, e2⟩ := y
                    have f0 := he2 0 _ rfl
                    have f1 := he2 1 _ rfl
                    have f2 := he2 2 _ rfl
                    simp only [shT, Nat.add_zero] at f0 f1 f2
                    have hbi := (hko3.out.2 XA _ _ _ hbC2.out (by decide) (by decide)).trans hbC2.out
                    have hqk : qOk (e0, a.m, e1) := ⟨hxo.1, hao.out.q.1, hxo.2.1⟩
                    replace hst3 := Lib.hid hst3
                    replace hbd3 := Lib.hid hbd3
                    replace hn3 := Lib.hid hn3
                    replace hbi := Lib.hid hbi
                    replace hqk := Lib.hid hqk
                    replace hja := Lib.hid hja
                    clear he2 hye hQ htl
                    go_wp2
                    have hkF : Keeps [] wr (wr.alloc (.cells #[.int .i64 e0, .int .u64 e1, .int .i64 e2] tI)) := (Keeps.refl _ _).alloc _
                    have hbF := heap_alloc_new wr (.cells #[.int .i64 e0, .int .u64 e1, .int .i64 e2] tI)
                    have hzF : (wr.alloc (.cells #[.int .i64 e0, .int .u64 e1, .int .i64 e2] tI)).heap.size = wr.heap.size + 1 := by simp
                    generalize (wr.alloc (.cells #[.int .i64 e0, .int .u64 e1, .int .i64 e2] tI)) = WF at *
                    have hCF := hC3.out.keeps hkF
                    have hk3F := hk3.out.trans hkF
                    have hko3F := hko3.out.trans (KO.nil hkF)
                    have hbiF := (hkF.block XA (lt_of_blk hbi.out) (by simp)).trans hbi.out
                    have hXAw : XA < wr.heap.size := lt_of_blk hbi.out
                    have hWw : W3.heap.size ≤ wr.heap.size := hk3.out.size
                    obtain ⟨XF, hXF⟩ : ∃ b, wr.heap.size = b := ⟨_, rfl⟩
                    rw [hXF] at hbF hzF hXAw hWw ⊢
                    obtain ⟨r0, r1, r2⟩ := cells3t hbF
                    obtain ⟨y0, y1, y2, y3, y4, y5, y6, y7, yf, ylt⟩ := cells8 hbiF
                    have d7 := hk3F.val c7.out
                    have hRF := hR.out.keeps ktQ hk3F
                    have hlook := fun (w' : World) (hb : w'.heap[bm]? = WF.heap[bm]?) => MapS.M.look ktQ (k := (e0, a.m, e1)) Try.underlying81 (aV .zero) zeroA (hRF.at' hb) hqk.out
                    obtain ⟨xv, hxv, hlu⟩ := hRL.out.lu (e0, a.m, e1)
                    rw [hxv] at hlook
                    obtain ⟨v0, v1, v2, v3, v4, v5, v6, v7, v8, v9⟩ := xv
                    simp only [ktQ, qV, aV, AnV.v] at hlook
                    simp only at hlu
                    have hfl := fun w' => field_lu w' v0 v1 v2 v3 v4 v5 v6 (.slice v7 v8 v9) rfl
                    have hbtF : bt < WF.heap.size := by omega
                    have hbmF : bm < WF.heap.size := by omega
                    replace hCF := Lib.hid hCF
                    replace hk3F := Lib.hid hk3F
                    replace hko3F := Lib.hid hko3F
                    replace hbiF := Lib.hid hbiF
                    replace hlook := Lib.hid hlook
                    replace hlu := Lib.hid hlu
                    replace hbF := Lib.hid hbF
                    replace hxv := Lib.hid hxv
                    have hXFe := Lib.hid hXF
                    clear hC3 hk3 hko3 hkF hbi hRF f0 f1 f2 hXF
                    refine Free.wp_region_chain (fun i => i == 18 || i == 19) (fun i => true) (fun j b => j = 19 ∧ WF.heap.size ≤ b) (by kernel_rfl) (by kernel_rfl) (by kernel_rfl) ?_
                    (repeat (first | (apply Free.cw_pure rfl rfl; (intro w'; go_simp <;> exact rfl); go_frame) | (apply Free.cw_steady rfl rfl rfl; (intro w' hS2; have z0 := Free.sx_cell hS2 d7 (fun _ _ hT => by omega); have z1 := Free.sx_cell hS2 r0 (fun _ _ hT => by omega); have z2 := Free.sx_cell hS2 r1 (fun _ _ hT => by omega); have z3 := Free.sx_cell hS2 y0 (fun _ _ hT => by omega); have z5 := hlook.out w' (hS2.block bm hbmF (fun ⟨_, _, _, hT⟩ => by omega)); go_simp <;> exact rfl); go_frame)))
                    refine Free.cw_loud rfl rfl (fun K hK => ?_)
                    go_wp2
                    refine hK _ _ rfl (Free.KeepsP.alloc _ _ _) ?_
                    clear hK K
                    (repeat (apply Free.cw_pure rfl rfl; (intro w'; go_simp <;> exact rfl); go_frame))
                    refine Free.cw_loud rfl rfl (fun K hK => ?_)
                    go_wp2
                    refine hK _ _ rfl (keepsP_remade (S := fun b => True ∧ WF.heap.size ≤ b) WF _ _ ⟨trivial, Nat.le_refl _⟩).drews ?_
                    clear hK K
                    (repeat (apply Free.cw_pure rfl rfl; (intro w'; go_simp <;> exact rfl); go_frame))
                    refine Free.cw_nil ?_
                    have hsc : scC t a.m Q (e0, e1, e2) = Q.set n ((Q[n]'(by have := hn3.out; omega)).upd 1 (addN (e0, e1, v6) ((Q[n]'(by have := hn3.out; omega)).at 1))) := by
                      unfold scC
                      rw [updL_at hn3.out, ← hlu.out]
                    rw [hsc] at hst3
                    have hkN : Keeps [] WF ((WF.alloc (.cells #[.int .i64 e0, .int .u64 e1, .int .i64 v6] tN)).drew) := ((Keeps.refl _ _).alloc _).drew
                    have hbN : ((WF.alloc (.cells #[.int .i64 e0, .int .u64 e1, .int .i64 v6] tN)).drew).heap[XF + 1]? = some (.cells #[.int .i64 e0, .int .u64 e1, .int .i64 v6] tN (0, 0)) := by
                      have := heap_alloc_new WF (.cells #[.int .i64 e0, .int .u64 e1, .int .i64 v6] tN)
                      rw [hzF] at this
                      exact this
                    generalize ((WF.alloc (.cells #[.int .i64 e0, .int .u64 e1, .int .i64 v6] tN)).drew) = WN at *
                    have hCN := hCF.out.keeps hkN
                    have hk3N := hk3F.out.trans hkN
                    have hko3N := hko3F.out.trans (KO.nil hkN)
                    have hbiN := (hkN.block XA (lt_of_blk hbiF.out) (by simp)).trans hbiF.out
                    have hlow : ∀ b, (Value.slice (some ⟨gc, 0, none⟩) (n + 1) cc1).ownBlock = some b → b < WF.heap.size := fun b hb => hCF.out.c.lt b hb
                    have hgF : gc < WF.heap.size := hlow gc (by simp [Value.ownBlock])
                    have hn4 := hn3.out
                    obtain ⟨⟨sa, sn, sc⟩, hv0⟩ : ∃ x, V3 n 1 = x := ⟨_, rfl⟩
                    have hOn := hCN.o n 1 (by omega) (by omega)
                    have hOlt : ∀ b, (slv (V3 n 1)).ownBlock = some b → b < WF.heap.size := fun b hb => (hCF.out.o n 1 (by omega) (by omega)).lt b hb
                    have hng := fun b (e : (slv (V3 n 1)).ownBlock = some b) => hCN.ne (by omega) (by omega) e
                    have hll := hbd3.out n (by omega) 1 (by omega)
                    obtain ⟨gc', cc', ev, hgB', hgl', _, _, _, m3, _, mf⟩ := hCN.row (k := n) (by omega)
                    rw [hn4] at ev
                    cases ev
                    rw [hv0] at hOn hng m3 hOlt
                    simp only [slv] at hOn hng m3 hOlt
                    have hne1 : ∀ b, (Value.slice sa sn sc).ownBlock = some b → b ≠ gc := fun b e e2 => hng b e (by simp [Value.ownBlock, e2])
                    have hne2 : ∀ b, (Value.slice sa sn sc).ownBlock = some b → b ≠ XF + 1 := fun b e e2 => by have := hOlt b e; omega
                    have hne3 : XF + 1 ≠ gc := by omega
                    obtain ⟨r0, r1, r2⟩ := cells3t hbN
                    have hcon := fun (W : World) (hk : Keeps [] WN W) => containsN_c W _ _ (e0, e1, v6) (hOn.r.keeps hk)
                    obtain ⟨ib, hib⟩ : ∃ ib, decide ((e0, e1, v6) ∈ Q[n].at 1) = ib := ⟨_, rfl⟩
                    rw [hib] at hcon
                    simp only [tV] at hcon
                    replace hib := Lib.hid hib
                    replace hcon := Lib.hid hcon
                    replace hCN := Lib.hid hCN
                    replace hk3N := Lib.hid hk3N
                    replace hko3N := Lib.hid hko3N
                    replace hbiN := Lib.hid hbiN
                    replace hbN := Lib.hid hbN
                    replace hne1 := Lib.hid hne1
                    replace hne2 := Lib.hid hne2
                    replace hOn := Lib.hid hOn
                    replace hll := Lib.hid hll
                    replace hst3 := Lib.hid hst3.out
                    have hn5 := Lib.hid hn4
                    clear hsc hkN hng hOlt hlow hCF hk3F hko3F hbiF hlook hlu hbF hfl d7 y0 y1 y2 y3 y4 y5 y6 y7 yf ylt hxv
                    go_wp2
                    refine Free.wp_region_chain (fun i => i == 5) (fun i => true) (fun _ _ => False) (by kernel_rfl) (by kernel_rfl) (by kernel_rfl) ?_
                    (repeat (first | (apply Free.cw_pure rfl rfl; (intro w'; go_simp <;> exact rfl); go_frame) | (apply Free.cw_steady rfl rfl rfl; (intro w' hS; have q0 := Free.sx_cell hS m3 (fun _ _ hT => hT); have q1 := Free.sx_cell hS r0 (fun _ _ hT => hT); have q2 := Free.sx_cell hS r1 (fun _ _ hT => hT); have q3 := Free.sx_cell hS r2 (fun _ _ hT => hT); go_simp <;> exact rfl); go_frame) | (refine Free.cw_skip rfl ?_; go_frame)))
                    refine Free.cw_loud rfl rfl (fun K hK => ?_)
                    go_wp2_with fail
                    refine (hcon.out _ ((Keeps.refl [] _).drew)).mono ?_
                    rintro e wB ⟨rfl, hkB0⟩
                    refine hK _ _ rfl (Free.KeepsP.of hkB0 (by simp)) ?_
                    clear hK K hcon
                    (repeat (apply Free.cw_pure rfl rfl; (intro w'; go_simp <;> exact rfl); go_frame))
                    refine Free.cw_nil ?_
                    have hkB : Keeps [] WN wB := ((Keeps.refl [] WN).drew).trans hkB0
                    have hCB := hCN.out.keeps hkB
                    have hk3B := hk3N.out.trans hkB
                    have hko3B := hko3N.out.trans (KO.nil hkB)
                    have hbB := (hkB.block _ (lt_of_blk hbN.out) (by simp)).trans hbN.out
                    have hOB := hOn.out.keeps hkB
                    have m3B := hkB.val m3
                    have mfB : ∀ o, wB.frozen? ⟨gc, o, none⟩ = false := fun o => (hkB.frozen gc o hgl' (by simp)).trans (mf o)
                    have hglB : gc < wB.heap.size := Nat.lt_of_lt_of_le hgl' hkB.size
                    obtain ⟨r0, r1, r2⟩ := cells3t hbB
                    have hXB : XF + 1 < wB.heap.size := lt_of_blk hbB
                    replace hCB := Lib.hid hCB
                    replace hk3B := Lib.hid hk3B
                    replace hko3B := Lib.hid hko3B
                    replace hOB := Lib.hid hOB
                    clear hCN hk3N hko3N hbN hbiN hOn m3 mf hgl' hkB0 hkB hbB
                    cases ib with
                    | true =>
                      have hsame : Q.set n (Q[n].upd 1 (addN (e0, e1, v6) (Q[n].at 1))) = Q := by
                        have h1 : addN (e0, e1, v6) (Q[n].at 1) = Q[n].at 1 := if_pos (of_decide_eq_true hib.out)
                        rw [h1, upd_same _ _ (by omega)]
                        exact List.set_getElem_self _
                      have hst4 := hst3.out
                      rw [hsame] at hst4
                      replace hCB := hCB.out
                      rw [← hst4] at hCB
                      replace hCB := Lib.hid hCB
                      clear hsame hst4
                      go_wp2
                      go_roundw
                      case rel => exact ⟨j + 1, rfl, by omega, V3, hCB, hk3B, hko3B⟩
                      case measure => simp [intOf]; omega
                    | false =>
                      have hst4 := hst3.out
                      rw [show addN (e0, e1, v6) (Q[n].at 1) = Q[n].at 1 ++ [(e0, e1, v6)] from if_neg (of_decide_eq_false hib.out)] at hst4
                      replace hst4 := Lib.hid hst4
                      go_wp2
                      refine Free.wp_region_chain (fun i => i == 6 || i == 7 || i == 10) (fun i => true) (fun j b => (j = 7 ∧ (Value.slice sa sn sc).ownBlock = some b) ∨ (j = 10 ∧ b = gc)) (by kernel_rfl) (by kernel_rfl) (by kernel_rfl) ?_
                      (repeat (first | (apply Free.cw_pure rfl rfl; (intro w'; go_simp <;> exact rfl); go_frame) | (apply Free.cw_steady rfl rfl rfl; (intro w' hS; have q0 := Free.sx_cell hS m3B (fun j hp hT => Or.elim hT (fun h => hne1.out _ h.2 rfl) (fun h => by obtain ⟨rfl, _⟩ := h; exact absurd hp (by decide +kernel))); have q1 := Free.sx_cell hS r0 (fun j hp hT => Or.elim hT (fun h => hne2.out _ h.2 rfl) (fun h => hne3 h.2)); have q2 := Free.sx_cell hS r1 (fun j hp hT => Or.elim hT (fun h => hne2.out _ h.2 rfl) (fun h => hne3 h.2)); have q3 := Free.sx_cell hS r2 (fun j hp hT => Or.elim hT (fun h => hne2.out _ h.2 rfl) (fun h => hne3 h.2)); go_simp <;> exact rfl); go_frame) | (refine Free.cw_skip rfl ?_; go_frame)))
                      refine Free.cw_loud rfl rfl (fun K hK => ?_)
                      go_wp2
                      refine hK _ _ rfl (Free.KeepsP.alloc _ _ _) ?_
                      clear hK K
                      (repeat (apply Free.cw_pure rfl rfl; (intro w'; go_simp <;> exact rfl); go_frame))
                      refine Free.cw_loud rfl rfl (fun K hK => ?_)
                      have hkE : Keeps [] wB ((wB.alloc (.cells #[.int .i64 e0, .int .u64 e1, .int .i64 v6] tN)).drew) := ((Keeps.refl _ _).alloc _).drew
                      have hmade := (Sh.O.one shT wB (e0, e1, v6) #[.int .i64 e0, .int .u64 e1, .int .i64 v6] tN 0 rfl (by omega)).keeps ((Keeps.refl [] _).drew)
                      have hOE := hOB.out.keeps hkE
                      have hCE := hCB.out.keeps hkE
                      have hlE := hkE.size
                      refine Sh.wp_app shT W3.heap.size infoN rfl Try.underlying42 (.slice sa sn sc) (.slice (some ⟨wB.heap.size, 0, none⟩) 1 1) (Q[n].at 1) [(e0, e1, v6)] _ _ rfl rfl rfl hOE hmade.r (by have := hll.out; simp only [List.length_cons, List.length_nil]; omega) (Nat.le_trans hk3B.out.size hlE) ?_
                      intro v5 w5 hO5 hG5
                      obtain ⟨a5, c5, rfl⟩ := hO5.form
                      obtain ⟨N5, hN5⟩ : ∃ q, (Q[n].at 1 ++ [(e0, e1, v6)]).length = q := ⟨_, rfl⟩
                      rw [hN5] at hO5 hG5 ⊢
                      refine hK _ _ rfl (Free.KeepsP.of hG5.keepsO (fun b hb => .inl ⟨rfl, by simpa using hb⟩)) ?_
                      clear hK K
                      have hC6 := hCE.app (k := n) (j := 1) (by have := hn5.out; omega) (by omega) (v' := (a5, N5, c5)) (by rw [hv0]; exact hG5) hO5
                      rw [← hst4.out] at hC6
                      have hng5 : gc ∉ (Value.slice sa sn sc).ownBlock.toList := fun hm => hne1.out gc (by simpa using hm) rfl
                      have hgl5 : gc < ((wB.alloc (.cells #[.int .i64 e0, .int .u64 e1, .int .i64 v6] tN)).drew).heap.size := Nat.lt_of_lt_of_le hglB hlE
                      have m5 := (hG5.keepsO.cell gc (n * 5 + 3) hgl5 hng5).trans (hkE.val m3B)
                      have f5 := (hG5.keepsO.frozen gc (n * 5 + 3) hgl5 hng5).trans ((hkE.frozen gc (n * 5 + 3) hglB (by simp)).trans (mfB _))
                      have hkS : Keeps [gc] w5 (w5.setCell ⟨gc, n * 5 + (2 + 1), none⟩ (.slice a5 N5 c5)) := (Keeps.refl _ _).setCell (.inr (by simp)) _
                      have hk6 : Keeps [] W3 (w5.setCell ⟨gc, n * 5 + (2 + 1), none⟩ (.slice a5 N5 c5)) := (Grw.keeps (hk3B.out.trans hkE) hG5 (fun b hb => hOE.ge b hb)).fresh hkS (fun b hb => by simp at hb; subst hb; exact .inr hgB)
                      have hko6 : KO wc (w5.setCell ⟨gc, n * 5 + (2 + 1), none⟩ (.slice a5 N5 c5)) := hko3B.out.trans (((KO.nil hkE).trans (KO.grwN hG5 hOE)).trans (KO.of hkS (fun b hb => by
                        simp at hb; subst hb
                        obtain ⟨cs, hc⟩ := hCE.c.tag b (by simp [Value.ownBlock])
                        exact ⟨cs, _, _, (hG5.keepsO.block b hgl5 hng5).trans hc, .inl rfl⟩)))
                      have hgl6 := lt_of_cell m5
                      replace hC6 := Lib.hid hC6
                      replace hk6 := Lib.hid hk6
                      replace hko6 := Lib.hid hko6
                      replace hkS := Lib.hid hkS
                      clear hO5 hG5 hmade hOE hCE hkE hlE hng5 hgl5
                      (repeat (apply Free.cw_pure rfl rfl; (intro w'; go_simp <;> exact rfl); go_frame))
                      refine Free.cw_loud rfl rfl (fun K hK => ?_)
                      go_wp2
                      refine hK _ _ rfl (Free.KeepsP.of hkS.out (fun b hb => .inr ⟨trivial, by simpa using hb⟩)) ?_
                      clear hK K
                      refine Free.cw_nil ?_
                      go_wp2
                      go_roundw
                      case rel => exact ⟨j + 1, rfl, by omega, _, hC6, hk6, hko6⟩
                      case measure => simp [intOf]; omega
                  · have hjx : j = x8 := by omega
                    subst hjx
                    have hfin : (a.ins.take j).foldl (scC t a.m) P2 = rawOf t O (Y.take (k + 1)) := by rw [hst2.out, hx8.out, foldl_all]
                    replace hC3 := hC3.out
                    rw [hfin] at hC3
                    replace hC3 := Lib.hid hC3
                    clear hfin
                    go_wp2
                    go_roundw
                    case rel => exact ⟨k + 1, rfl, by omega, _, hC3, hk3⟩
                    case measure => simp [intOf]; omega
        --DEV2
        · have hkN : N = k := by omega
          subst hkN
          obtain ⟨P, hP⟩ : ∃ P, rawOf t O Y = P := ⟨_, rfl⟩
          have hPt : rawOf t O (Y.take N) = P := by rw [← hNY.out, List.take_length, hP]
          obtain ⟨hbd, hPl⟩ := rawOf_take t O Y (fun a ha => (hYok.out a ha).len) N (by rw [hNY.out]; exact Nat.le_refl _)
          rw [hPt] at hC hbd hPl
          obtain ⟨ca, cc, rfl⟩ := hC.out.c.form
          obtain ⟨NP, hNP⟩ : ∃ n, P.length = n := ⟨_, rfl⟩
          rw [rowsC_len, hNP] at hC ⊢
          have hNP1 : NP ≤ 1000 := by omega
          replace hbd := Lib.hid hbd
          replace hNP := Lib.hid hNP
          replace hP := Lib.hid hP
          clear hPt hPl
          go_wp2
          have hW3s := hkr.out.size
          go_loopw [187] (fun i wl => ∃ k : Nat, i = .int .i64 k ∧ k ≤ NP ∧ ∃ Q, Hid (CL wl W3.heap.size (.slice ca NP cc) Q V) ∧ Hid (Srt k 0 P Q) ∧ Hid (Keeps [] W3 wl)) (fun i _ => NP - (intOf i).toNat)
          case atStart => exact ⟨0, rfl, by omega, P, hC, Lib.hid (Srt.start P), hkr⟩
          case round =>
            obtain ⟨k, rfl, hk, Q, hCQ, hS5, hk5⟩ := hrel
            by_cases hlt5 : k < NP
            · have hQl : Q.length = NP := by rw [hS5.out.1]; exact hNP.out
              have hrow := hCQ.out.row (k := k) (by rw [hQl]; exact hlt5)
              obtain ⟨gc, cc1, ev, hgB, hgl, _, _, m2, m3, m4, _⟩ := hrow
              rw [hQl] at ev
              cases ev
              have hk5s := hk5.out.size
              replace hQl := Lib.hid hQl
              go_wp2
              refine Free.wp_region_chain (fun i => i == 15) (fun i => true) (fun _ _ => False) (by kernel_rfl) (by kernel_rfl) (by kernel_rfl) ?_
              (repeat (first | (apply Free.cw_pure rfl rfl; (intro w'; go_simp <;> exact rfl); go_frame) | (apply Free.cw_steady rfl rfl rfl; (intro w' hS; have q0 := Free.sx_cell hS m2 (fun _ _ hT => hT); have q1 := Free.sx_cell hS m3 (fun _ _ hT => hT); have q2 := Free.sx_cell hS m4 (fun _ _ hT => hT); go_simp <;> exact rfl); go_frame) | (refine Free.cw_skip rfl ?_; go_frame)))
              refine Free.cw_loud rfl rfl (fun K hK => ?_)
              go_wp2
              refine hK _ _ rfl (Free.KeepsP.alloc _ _ _) ?_
              clear hK K
              (repeat (apply Free.cw_pure rfl rfl; (intro w'; go_simp <;> exact rfl); go_frame))
              refine Free.cw_nil ?_
              have hkB : Keeps [] wr ((wr.alloc (.cells #[slv (V k 0), slv (V k 1), slv (V k 2)] 42)).drew) := ((Keeps.refl _ _).alloc _).drew
              have hbB : ((wr.alloc (.cells #[slv (V k 0), slv (V k 1), slv (V k 2)] 42)).drew).heap[wr.heap.size]? = some (.cells #[slv (V k 0), slv (V k 1), slv (V k 2)] 42 (0, 0)) := heap_alloc_new wr _
              generalize ((wr.alloc (.cells #[slv (V k 0), slv (V k 1), slv (V k 2)] 42)).drew) = WB at *
              obtain ⟨XB, hXB⟩ : ∃ b, wr.heap.size = b := ⟨_, rfl⟩
              have hCB := hCQ.out.keeps hkB
              have hk5B := hk5.out.trans hkB
              have hSj : Srt k 0 P Q := hS5.out
              rw [hXB] at hbB ⊢
              replace hbB := Lib.hid hbB
              replace hCB := Lib.hid hCB
              replace hk5B := Lib.hid hk5B
              replace hSj := Lib.hid hSj
              clear hXB hkB hCQ hk5 hS5 m2 m3 m4 hgl hk5s
              go_wp2
              go_loopw [207] (fun i wl => ∃ j : Nat, i = .int .i64 j ∧ j ≤ 3 ∧ ∃ Q, Hid (CL wl W3.heap.size (.slice (some ⟨gc, 0, none⟩) NP cc) Q V) ∧ Hid (Srt k j P Q) ∧ Hid (Keeps [] W3 wl) ∧ Hid (KO WB wl)) (fun i _ => 3 - (intOf i).toNat)
              case atStart => exact ⟨0, rfl, by omega, Q, hCB, hSj, hk5B, Lib.hid (KO.nil (Keeps.refl _ _))⟩
              case round =>
                obtain ⟨j, rfl, hj, Q6, hC6, hS6, hk6, hko6⟩ := hrel
                by_cases hlt6 : j < 3
                · have hb6 := (hko6.out.2 XB _ _ _ hbB.out (by decide) (by decide)).trans hbB.out
                  have hc6 := cells3s (u := fun j => slv (V k j)) hb6 hlt6
                  have hQ6 : Q6.length = NP := by rw [hS6.out.1]; exact hNP.out
                  have hO6 := hC6.out.o k j (by rw [hQ6]; exact hlt5) hlt6
                  have hl6 : ((Q6[k]'(by rw [hQ6]; exact hlt5)).at j).length ≤ 1000000000000 := by
                    have h1 := ((hS6.out.2 k (by rw [hQ6]; exact hlt5) (by rw [hNP.out]; exact hlt5)).2.2 j hlt6).1.length_eq
                    have h2 := hbd.out k (by rw [hNP.out]; exact hlt5) j hlt6
                    omega
                  have hXl := lt_of_cell hc6
                  obtain ⟨⟨sa, sn, sc⟩, hv0⟩ : ∃ x, V k j = x := ⟨_, rfl⟩
                  rw [hv0] at hO6
                  simp only [hv0, slv] at hc6 hO6
                  have hsort := sortT_c wr W3.heap.size _ _ hO6 hl6
                  replace hsort := Lib.hid hsort
                  replace hO6 := Lib.hid hO6
                  replace hQ6 := Lib.hid hQ6
                  clear hb6 hl6
                  go_wp2_with fail
                  refine hsort.out.mono ?_
                  rintro e w7 ⟨rfl, L', hp7, hw7, hO7, hk7⟩
                  have hkn : k < Q6.length := by rw [hQ6.out]; exact hlt5
                  have hC7 := hC6.out.turn (k := k) (j := j) hkn hlt6 (L' := L') (w' := w7) (by rw [hv0]; exact hk7) (by rw [hv0]; exact hO7)
                  have hS7 := hS6.out.step hkn hlt6 hp7 hw7
                  have hkk7 : Keeps [] W3 w7 := hk6.out.fresh hk7 (fun b hb => .inr (hO6.out.ge b (by simpa using hb)))
                  have hko7 : KO WB w7 := hko6.out.trans (KO.of hk7 (fun b hb => by
                    obtain ⟨cs, hc⟩ := hO6.out.tag b (by simpa using hb)
                    exact ⟨cs, _, _, hc, .inr rfl⟩))
                  replace hC7 := Lib.hid hC7
                  replace hS7 := Lib.hid hS7
                  replace hkk7 := Lib.hid hkk7
                  replace hko7 := Lib.hid hko7
                  clear hp7 hw7 hO7 hk7 hsort
                  go_wp2
                  go_roundw
                  case rel => exact ⟨j + 1, rfl, by omega, _, hC7, hS7, hkk7, hko7⟩
                  case measure => simp [intOf]; omega
                · have hj3 : j = 3 := by omega
                  subst hj3
                  have hSn := Lib.hid hS6.out.next
                  go_wp2
                  go_roundw
                  case rel => exact ⟨k + 1, rfl, by omega, Q6, hC6, hSn, hk6⟩
                  case measure => simp [intOf]; omega
            · have hkN : k = NP := by omega
              subst hkN
              have hfin : ∃ P V Bc Y, w.heap.size ≤ Bc ∧ CL wr Bc (.slice ca k cc) P V ∧ SortedA t Y ∧ ClaimsP t Y P ∧ Keeps [] w wr := by
                refine ⟨Q, V, W3.heap.size, Y, hwW, hCQ.out, hS.out, ?_, hk03.out.trans hk5.out⟩
                have hs := hS5.out
                unfold ClaimsP
                rw [hOe.out, hP.out]
                exact ⟨hs.1, fun i h1 h2 => ⟨(hs.2 i h1 h2).1, (hs.2 i h1 h2).2.1, fun l hl => ⟨((hs.2 i h1 h2).2.2 l hl).1, ((hs.2 i h1 h2).2.2 l hl).2 (.inl (by rw [hs.1, hNP.out] at h1; exact h1))⟩⟩⟩
              replace hfin := Lib.hid hfin
              go_wp2
              go_ret
              obtain ⟨Pf, Vf, Bf, Yf, g1, g2, g3, g4, g5⟩ := hfin.out
              exact ⟨_, Pf, Vf, Bf, Yf, rfl, g1, g2, g3, g4, g5⟩
end Go.Proofs.Ythfdngjbcgkkfaa

namespace Go.Proofs.Ythfdngjbcgkkfaa
open Go.RowKit

set_option maxRecDepth 100000 in
set_option maxHeartbeats 2000000 in
theorem sameNeeds_c (w : World) (v1 v2 : Value) (L1 L2 : List T3) (h1 : shT.R w v1 L1) (h2 : shT.R w v2 L2) :
    Calls Try.prog 38 #[v1, v2] w fun e w' => e = .returned (.bool (decide (L1 = L2))) ∧ Keeps [] w w' := by
  obtain ⟨a1, c1, rfl, hlc1, hcm1, _⟩ := h1.form
  obtain ⟨a2, c2, rfl, hlc2, hcm2, _⟩ := h2.form
  have hel1 := fun k hk => h1.elem (k := k) hk
  have hel2 := fun k hk => h2.elem (k := k) hk
  obtain ⟨M1, hM1⟩ : ∃ N, L1.length = N := ⟨_, rfl⟩
  obtain ⟨M2, hM2⟩ : ∃ N, L2.length = N := ⟨_, rfl⟩
  rw [hM1] at hlc1 ⊢
  rw [hM2] at hlc2 ⊢
  have hMm : M1 ≤ 9223372036854775807 := by unfold maxLen at hcm1; omega
  replace hel1 := Lib.hid hel1
  replace hel2 := Lib.hid hel2
  replace hM1 := Lib.hid hM1
  replace hM2 := Lib.hid hM2
  clear h1 h2 hcm1 hcm2
  obtain ⟨rb, hrb⟩ : ∃ b, decide (L1 = L2) = b := ⟨_, rfl⟩
  rw [hrb]
  replace hrb := Lib.hid hrb
  by_cases hne : M1 = M2
  · subst hne
    go_enter Try.func38, Try.ntmps38
    go_wp2
    go_loopw [5] (fun i wr => ∃ k : Nat, i = .int .i64 k ∧ k ≤ M1 ∧ Hid (∀ j (h1 : j < L1.length) (h2 : j < L2.length), j < k → L1[j] = L2[j]) ∧ Hid (Keeps [] w wr)) (fun i _ => M1 - (intOf i).toNat)
    case atStart => exact ⟨0, rfl, by omega, Lib.hid (fun _ _ _ h => by omega), Lib.hid (Keeps.refl _ _)⟩
    case round =>
      obtain ⟨k, rfl, hk, hno, hkw⟩ := hrel
      by_cases hlt : k < M1
      · have hk1 : k < L1.length := by rw [hM1.out]; exact hlt
        have hk2 : k < L2.length := by rw [hM2.out]; exact hlt
        obtain ⟨g, o, c', hv, he⟩ := hel1.out k hk1
        obtain ⟨g2, o2, c2', hv2, he2⟩ := hel2.out k hk2
        rw [hM1.out] at hv
        rw [hM2.out] at hv2
        cases hv
        cases hv2
        obtain ⟨⟨x0, x1, x2⟩, hx⟩ : ∃ x, L1[k] = x := ⟨_, rfl⟩
        obtain ⟨⟨y0, y1, y2⟩, hy⟩ : ∃ x, L2[k] = x := ⟨_, rfl⟩
        rw [hx] at he
        rw [hy] at he2
        have e0 := hkw.out.val (he 0 _ rfl)
        have e1 := hkw.out.val (he 1 _ rfl)
        have e2 := hkw.out.val (he 2 _ rfl)
        have d0 := hkw.out.val (he2 0 _ rfl)
        have d1 := hkw.out.val (he2 1 _ rfl)
        have d2 := hkw.out.val (he2 2 _ rfl)
        simp only [shT, Nat.add_zero] at e0 e1 e2 d0 d1 d2
        have hq := fun w => neN w (x0, x1, x2) (y0, y1, y2)
        simp only [tV] at hq
        replace hx := Lib.hid hx
        replace hy := Lib.hid hy
        clear he he2
        by_cases h1 : (x0, x1, x2) = (y0, y1, y2)
        · rw [decide_eq_false (fun h => h h1)] at hq
          replace h1 := Lib.hid h1
          go_wp2
          (refine wp_region_quiet_lit (by kernel_rfl) (by kernel_rfl) ?_; (repeat (first | go_big_quiet_step (fail) | quiet_step (fail))); with_reducible refine wpQuiet_nil ?_; intro _ hw'; obtain ⟨nq, hw''⟩ := hw'; subst hw'')
          go_wp2
          go_roundw
          case rel => exact ⟨k + 1, rfl, by omega, Lib.hid (fun j hj1 hj2 hjk => by
              by_cases e : j = k
              · subst e; rw [hx.out, hy.out]; exact h1.out
              · exact hno.out j hj1 hj2 (by omega)), Lib.hid (hkw.out.drewN _)⟩
          case measure => simp [intOf]; omega
        · rw [decide_eq_true h1] at hq
          have hr : decide (L1 = L2) = false := decide_eq_false (fun e => h1 (by rw [← hx.out, ← hy.out]; simp only [e]))
          rw [hrb.out] at hr
          replace hr := Lib.hid hr
          replace h1 := Lib.hid h1
          go_wp2
          (refine wp_region_quiet_lit (by kernel_rfl) (by kernel_rfl) ?_; (repeat (first | go_big_quiet_step (fail) | quiet_step (fail))); with_reducible refine wpQuiet_nil ?_; intro _ hw'; obtain ⟨nq, hw''⟩ := hw'; subst hw'')
          go_wp2
          go_ret
          exact ⟨by rw [hr.out]; rfl, hkw.out.drewN _⟩
      · have hr : decide (L1 = L2) = true := decide_eq_true (List.ext_getElem (by rw [hM1.out, hM2.out]) (fun j h1 h2 => hno.out j h1 h2 (by rw [hM1.out] at h1; omega)))
        rw [hrb.out] at hr
        replace hr := Lib.hid hr
        go_wp2
        go_ret
        exact ⟨by rw [hr.out]; rfl, hkw.out⟩
  · have hne1 : ((M1 : Int) != M2) = true := by simp; omega
    have hr : decide (L1 = L2) = false := decide_eq_false (fun e => hne (by rw [← hM1.out, ← hM2.out, e]))
    rw [hrb.out] at hr
    replace hr := Lib.hid hr
    go_enter Try.func38, Try.ntmps38
    go_wp2
    go_ret
    exact ⟨by rw [hr.out]; rfl, Keeps.refl _ _⟩
def clV (x : ClV) : Value := .agg #[.int .i64 x.m, .int .i64 x.ep, slv x.v1, slv x.v2, slv x.v3]
/-- The cells of a claim say this claim. -/
structure CR (w : World) (x : ClV) (p : PCl) : Prop where
  m : x.m = p.m
  ep : x.ep = p.ep
  st : shT.R w (slv x.v1) p.st
  sc : shT.R w (slv x.v2) p.sc
  ch : shT.R w (slv x.v3) p.ch
theorem CR.keeps {w w' : World} {x : ClV} {p : PCl} (h : CR w x p) (hk : Keeps [] w w') : CR w' x p := ⟨h.m, h.ep, h.st.keeps hk, h.sc.keeps hk, h.ch.keeps hk⟩
theorem decide_pcl (p q : PCl) : decide (p = q) = (p.m == q.m && (p.ep == q.ep && (decide (p.st = q.st) && (decide (p.sc = q.sc) && decide (p.ch = q.ch))))) := by
  obtain ⟨a, b, c, d, e⟩ := p
  obtain ⟨a', b', c', d', e'⟩ := q
  simp only [PCl.mk.injEq, Bool.decide_and]
  rfl
theorem cells5 {w : World} {b : Nat} {x0 x1 x2 x3 x4 : Value} {t : TypeId} {f : Nat × Nat} (h : w.heap[b]? = some (.cells #[x0, x1, x2, x3, x4] t f)) : w.cell? ⟨b, 0, none⟩ = some x0 ∧ w.cell? ⟨b, 1, none⟩ = some x1 ∧ w.cell? ⟨b, 2, none⟩ = some x2 ∧ w.cell? ⟨b, 3, none⟩ = some x3 ∧ w.cell? ⟨b, 4, none⟩ = some x4 ∧ b < w.heap.size := by
  refine ⟨?_, ?_, ?_, ?_, ?_, lt_of_blk h⟩ <;> simp [World.cell?, h]
set_option maxRecDepth 100000 in
set_option maxHeartbeats 4000000 in
theorem sameClaim_c (w : World) (x y : ClV) (p q : PCl) (h1 : CR w x p) (h2 : CR w y q) :
    Calls Try.prog 32 #[clV x, clV y] w fun e w' => e = .returned (.bool (decide (p = q))) ∧ Keeps [] w w' := by
  have hdec := decide_pcl p q
  obtain ⟨rb, hrb⟩ : ∃ b, decide (p = q) = b := ⟨_, rfl⟩
  rw [hrb] at hdec ⊢
  obtain ⟨x0, x1, ⟨a1, a2, a3⟩, ⟨b1, b2, b3⟩, ⟨c1, c2, c3⟩⟩ := x
  obtain ⟨y0, y1, ⟨d1, d2, d3⟩, ⟨e1, e2, e3⟩, ⟨g1, g2, g3⟩⟩ := y
  obtain ⟨m1, m2, m3, m4, m5⟩ := h1
  obtain ⟨n1, n2, n3, n4, n5⟩ := h2
  simp only [slv] at m1 m2 m3 m4 m5 n1 n2 n3 n4 n5
  rw [← m1, ← m2, ← n1, ← n2] at hdec
  have hc1 := fun (W : World) (hk : Keeps [] w W) => sameNeeds_c W _ _ _ _ (m3.keeps hk) (n3.keeps hk)
  have hc2 := fun (W : World) (hk : Keeps [] w W) => sameNeeds_c W _ _ _ _ (m4.keeps hk) (n4.keeps hk)
  have hc3 := fun (W : World) (hk : Keeps [] w W) => sameNeeds_c W _ _ _ _ (m5.keeps hk) (n5.keeps hk)
  obtain ⟨s1, hs1⟩ : ∃ b, decide (p.st = q.st) = b := ⟨_, rfl⟩
  obtain ⟨s2, hs2⟩ : ∃ b, decide (p.sc = q.sc) = b := ⟨_, rfl⟩
  obtain ⟨s3, hs3⟩ : ∃ b, decide (p.ch = q.ch) = b := ⟨_, rfl⟩
  rw [hs1] at hc1 hdec
  rw [hs2] at hc2 hdec
  rw [hs3] at hc3 hdec
  have hkA : Keeps [] w ((w.alloc (.cells #[.int .i64 x0, .int .i64 x1, .slice a1 a2 a3, .slice b1 b2 b3, .slice c1 c2 c3] tC)).alloc (.cells #[.int .i64 y0, .int .i64 y1, .slice d1 d2 d3, .slice e1 e2 e3, .slice g1 g2 g3] tC)) := ((Keeps.refl _ _).alloc _).alloc _
  have hbA : ((w.alloc (.cells #[.int .i64 x0, .int .i64 x1, .slice a1 a2 a3, .slice b1 b2 b3, .slice c1 c2 c3] tC)).alloc (.cells #[.int .i64 y0, .int .i64 y1, .slice d1 d2 d3, .slice e1 e2 e3, .slice g1 g2 g3] tC)).heap[w.heap.size]? = some (.cells #[.int .i64 x0, .int .i64 x1, .slice a1 a2 a3, .slice b1 b2 b3, .slice c1 c2 c3] tC (0, 0)) :=
    (((Keeps.refl [] _).alloc _).block w.heap.size (by simp) (by simp)).trans (heap_alloc_new w _)
  have hbB : ((w.alloc (.cells #[.int .i64 x0, .int .i64 x1, .slice a1 a2 a3, .slice b1 b2 b3, .slice c1 c2 c3] tC)).alloc (.cells #[.int .i64 y0, .int .i64 y1, .slice d1 d2 d3, .slice e1 e2 e3, .slice g1 g2 g3] tC)).heap[w.heap.size + 1]? = some (.cells #[.int .i64 y0, .int .i64 y1, .slice d1 d2 d3, .slice e1 e2 e3, .slice g1 g2 g3] tC (0, 0)) := by
    have h3 := heap_alloc_new (w.alloc (.cells #[.int .i64 x0, .int .i64 x1, .slice a1 a2 a3, .slice b1 b2 b3, .slice c1 c2 c3] tC)) (.cells #[.int .i64 y0, .int .i64 y1, .slice d1 d2 d3, .slice e1 e2 e3, .slice g1 g2 g3] tC)
    rwa [show (w.alloc (.cells #[.int .i64 x0, .int .i64 x1, .slice a1 a2 a3, .slice b1 b2 b3, .slice c1 c2 c3] tC)).heap.size = w.heap.size + 1 by simp] at h3
  replace hbA := Lib.hid hbA
  replace hbB := Lib.hid hbB
  replace hc1 := Lib.hid hc1
  replace hc2 := Lib.hid hc2
  replace hc3 := Lib.hid hc3
  replace hdec := Lib.hid hdec
  replace hkA := Lib.hid hkA
  clear m1 m2 m3 m4 m5 n1 n2 n3 n4 n5 hs1 hs2 hs3 hrb
  simp only [clV, slv]
  by_cases f1 : x0 = y0
  case neg =>
    have k1 : (x0 == y0) = false := by simpa using f1
    have hd := hdec.out
    rw [k1, Bool.false_and] at hd
    subst hd
    go_enter Try.func32, Try.ntmps32
    go_wp2
    go_ret
    exact ⟨rfl, hkA.out⟩
  case pos =>
  subst f1
  have k1 : (x0 == x0) = true := by simp
  by_cases f2 : x1 = y1
  case neg =>
    have k2 : (x1 == y1) = false := by simpa using f2
    have hd := hdec.out
    rw [k1, k2, Bool.true_and, Bool.false_and] at hd
    subst hd
    go_enter Try.func32, Try.ntmps32
    go_wp2
    go_ret
    exact ⟨rfl, hkA.out⟩
  case pos =>
  subst f2
  have k2 : (x1 == x1) = true := by simp
  have hd := hdec.out
  rw [k1, k2, Bool.true_and, Bool.true_and] at hd
  subst hd
  clear hdec k1 k2
  go_enter Try.func32, Try.ntmps32
  go_wp2_with fail
  refine (hc1.out _ hkA.out).mono ?_
  rintro e w1 ⟨rfl, hk1⟩
  have hk01 := hkA.out.trans hk1
  have hb1 := (hk1.block _ (lt_of_blk hbA.out) (by simp)).trans hbA.out
  have hb2 := (hk1.block _ (lt_of_blk hbB.out) (by simp)).trans hbB.out
  obtain ⟨_, _, p2, p3, p4, _⟩ := cells5 hb1
  obtain ⟨_, _, q2, q3, q4, _⟩ := cells5 hb2
  replace hk01 := Lib.hid hk01
  replace hb1 := Lib.hid hb1
  replace hb2 := Lib.hid hb2
  clear hbA hbB hkA hk1 hc1
  cases s1 with
  | false =>
    go_wp2
    go_ret
    exact ⟨rfl, hk01.out⟩
  | true =>
  go_wp2_with fail
  refine (hc2.out _ hk01.out).mono ?_
  rintro e w2 ⟨rfl, hk2⟩
  have hk02 := hk01.out.trans hk2
  have hb3 := (hk2.block _ (lt_of_blk hb1.out) (by simp)).trans hb1.out
  have hb4 := (hk2.block _ (lt_of_blk hb2.out) (by simp)).trans hb2.out
  obtain ⟨_, _, p2, p3, p4, _⟩ := cells5 hb3
  obtain ⟨_, _, q2, q3, q4, _⟩ := cells5 hb4
  replace hk02 := Lib.hid hk02
  clear hb1 hb2 hb3 hb4 hk01 hk2 hc2
  cases s2 with
  | false =>
    go_wp2
    go_ret
    exact ⟨rfl, hk02.out⟩
  | true =>
  go_wp2_with fail
  refine (hc3.out _ hk02.out).mono ?_
  rintro e w3 ⟨rfl, hk3⟩
  have hk03 := hk02.out.trans hk3
  replace hk03 := Lib.hid hk03
  go_wp2
  go_ret
  exact ⟨rfl, hk03.out⟩
/-- A list of claims that is read. -/
def LC (w : World) (v : Value) (P : List PCl) : Prop := ∃ C, shC.R w v C ∧ C.length = P.length ∧ ∀ (k : Nat) (x : ClV) (p : PCl), C[k]? = some x → P[k]? = some p → CR w x p
theorem LC.keeps {w w' : World} {v : Value} {P : List PCl} (h : LC w v P) (hk : Keeps [] w w') : LC w' v P := by
  obtain ⟨C, h1, h2, h3⟩ := h
  exact ⟨C, h1.keeps hk, h2, fun k x p hx hp => (h3 k x p hx hp).keeps hk⟩
theorem LC.nil (w : World) : LC w (.slice none 0 0) [] := ⟨[], Sh.R.nil _ _, rfl, fun k x p h => by simp at h⟩
theorem LC.form {w : World} {v : Value} {P : List PCl} (h : LC w v P) : ∃ a c, v = .slice a P.length c ∧ P.length ≤ c ∧ c ≤ maxLen := by
  obtain ⟨C, h1, h2, h3⟩ := h
  obtain ⟨a, c, e, h4, h5, _⟩ := h1.form
  exact ⟨a, c, by rw [← h2]; exact e, by omega, h5⟩
theorem LC.elem {w : World} {v : Value} {P : List PCl} (h : LC w v P) {k : Nat} (hk : k < P.length) : ∃ g o c x, v = .slice (some ⟨g, o, none⟩) P.length c ∧ CR w x P[k] ∧ w.cell? ⟨g, o + k * 5, none⟩ = some (.int .i64 x.m) ∧ w.cell? ⟨g, o + k * 5 + 1, none⟩ = some (.int .i64 x.ep) ∧
    w.cell? ⟨g, o + k * 5 + 2, none⟩ = some (slv x.v1) ∧ w.cell? ⟨g, o + k * 5 + 3, none⟩ = some (slv x.v2) ∧ w.cell? ⟨g, o + k * 5 + 4, none⟩ = some (slv x.v3) := by
  obtain ⟨C, h1, h2, h3⟩ := h
  have hkC : k < C.length := by omega
  obtain ⟨g, o, c, e, he⟩ := h1.elem hkC
  refine ⟨g, o, c, C[k], by rw [← h2]; exact e, h3 k _ _ (List.getElem?_eq_getElem _) (List.getElem?_eq_getElem _), ?_, ?_, ?_, ?_, ?_⟩
  · simpa [shC] using he 0 _ rfl
  · simpa [shC] using he 1 _ rfl
  · simpa [shC] using he 2 _ rfl
  · simpa [shC] using he 3 _ rfl
  · simpa [shC] using he 4 _ rfl
theorem CL.lc {w : World} {B : Nat} {vc : Value} {P : List PCl} {V : Nat → Nat → SlT} (h : CL w B vc P V) : LC w vc P := by
  refine ⟨_, h.c.r, rowsC_len P V, fun k x p hx hp => ?_⟩
  obtain ⟨hk, rfl⟩ := List.getElem?_eq_some_iff.1 hp
  obtain ⟨hk2, rfl⟩ := List.getElem?_eq_some_iff.1 hx
  rw [rowsC_get P V k hk]
  exact ⟨rfl, rfl, (h.o k 0 hk (by omega)).r, (h.o k 1 hk (by omega)).r, (h.o k 2 hk (by omega)).r⟩
set_option maxRecDepth 100000 in
set_option maxHeartbeats 4000000 in
theorem sameClaims_c (w : World) (v1 v2 : Value) (L1 L2 : List PCl) (h1 : LC w v1 L1) (h2 : LC w v2 L2) :
    Calls Try.prog 12 #[v1, v2] w fun e w' => e = .returned (.bool (decide (L1 = L2))) ∧ Keeps [] w w' := by
  obtain ⟨a1, c1, rfl, hlc1, hcm1⟩ := h1.form
  obtain ⟨a2, c2, rfl, hlc2, hcm2⟩ := h2.form
  obtain ⟨M1, hM1⟩ : ∃ N, L1.length = N := ⟨_, rfl⟩
  obtain ⟨M2, hM2⟩ : ∃ N, L2.length = N := ⟨_, rfl⟩
  rw [hM1] at hlc1 h1 ⊢
  rw [hM2] at hlc2 h2 ⊢
  have hMm : M1 ≤ 9223372036854775807 := by unfold maxLen at hcm1; omega
  replace h1 := Lib.hid h1
  replace h2 := Lib.hid h2
  replace hM1 := Lib.hid hM1
  replace hM2 := Lib.hid hM2
  clear hcm1 hcm2
  obtain ⟨rb, hrb⟩ : ∃ b, decide (L1 = L2) = b := ⟨_, rfl⟩
  rw [hrb]
  replace hrb := Lib.hid hrb
  by_cases hne : M1 = M2
  · subst hne
    go_enter Try.func12, Try.ntmps12
    go_wp2
    go_loopw [5] (fun i wr => ∃ k : Nat, i = .int .i64 k ∧ k ≤ M1 ∧ Hid (∀ j (h1 : j < L1.length) (h2 : j < L2.length), j < k → L1[j] = L2[j]) ∧ Hid (Keeps [] w wr)) (fun i _ => M1 - (intOf i).toNat)
    case atStart => exact ⟨0, rfl, by omega, Lib.hid (fun _ _ _ h => by omega), Lib.hid (Keeps.refl _ _)⟩
    case round =>
      obtain ⟨k, rfl, hk, hno, hkw⟩ := hrel
      by_cases hlt : k < M1
      · have hk1 : k < L1.length := by rw [hM1.out]; exact hlt
        have hk2 : k < L2.length := by rw [hM2.out]; exact hlt
        obtain ⟨g, o, c', x, hv, hxr, e0, e1, e2, e3, e4⟩ := (h1.out.keeps hkw.out).elem hk1
        obtain ⟨g2, o2, c2', y, hv2, hyr, d0, d1, d2, d3, d4⟩ := (h2.out.keeps hkw.out).elem hk2
        rw [hM1.out] at hv
        rw [hM2.out] at hv2
        cases hv
        cases hv2
        have hcon := fun (W : World) (hk : Keeps [] wr W) => sameClaim_c W x y _ _ (hxr.keeps hk) (hyr.keeps hk)
        obtain ⟨sb, hsb⟩ : ∃ b, decide (L1[k] = L2[k]) = b := ⟨_, rfl⟩
        rw [hsb] at hcon
        obtain ⟨x0, x1, ⟨x2, x3, x4⟩, ⟨x5, x6, x7⟩, ⟨x8, x9, x10⟩⟩ := x
        obtain ⟨y0, y1, ⟨y2, y3, y4⟩, ⟨y5, y6, y7⟩, ⟨y8, y9, y10⟩⟩ := y
        simp only [clV, slv] at hcon e0 e1 e2 e3 e4 d0 d1 d2 d3 d4
        replace hcon := Lib.hid hcon
        replace hsb := Lib.hid hsb
        clear hxr hyr
        go_wp2
        refine Free.wp_region_chain (fun i => i == 8) (fun i => true) (fun _ _ => False) (by kernel_rfl) (by kernel_rfl) (by kernel_rfl) ?_
        (repeat (first | (apply Free.cw_pure rfl rfl; (intro w'; go_simp <;> exact rfl); go_frame) | (apply Free.cw_steady rfl rfl rfl; (intro w' hS; have q0 := Free.sx_cell hS e0 (fun _ _ hT => hT); have q1 := Free.sx_cell hS e1 (fun _ _ hT => hT); have q2 := Free.sx_cell hS e2 (fun _ _ hT => hT); have q3 := Free.sx_cell hS e3 (fun _ _ hT => hT); have q4 := Free.sx_cell hS e4 (fun _ _ hT => hT); have q5 := Free.sx_cell hS d0 (fun _ _ hT => hT); have q6 := Free.sx_cell hS d1 (fun _ _ hT => hT); have q7 := Free.sx_cell hS d2 (fun _ _ hT => hT); have q8 := Free.sx_cell hS d3 (fun _ _ hT => hT); have q9 := Free.sx_cell hS d4 (fun _ _ hT => hT); go_simp <;> exact rfl); go_frame) | (refine Free.cw_skip rfl ?_; go_frame)))
        refine Free.cw_loud rfl rfl (fun K hK => ?_)
        go_wp2_with fail
        refine (hcon.out _ ((Keeps.refl [] _).drew)).mono ?_
        rintro e w2 ⟨rfl, hkB⟩
        refine hK _ _ rfl (Free.KeepsP.of hkB (by simp)) ?_
        clear hK K hcon
        (repeat (apply Free.cw_pure rfl rfl; (intro w'; go_simp <;> exact rfl); go_frame))
        refine Free.cw_nil ?_
        have hkB2 : Keeps [] wr w2 := ((Keeps.refl [] wr).drew).trans hkB
        have hkw2 := Lib.hid (hkw.out.trans hkB2)
        clear hkB hkB2 hkw
        cases sb with
        | true =>
          go_wp2
          go_roundw
          case rel => exact ⟨k + 1, rfl, by omega, Lib.hid (fun j hj1 hj2 hjk => by
              by_cases e : j = k
              · subst e; exact of_decide_eq_true hsb.out
              · exact hno.out j hj1 hj2 (by omega)), hkw2⟩
          case measure => simp [intOf]; omega
        | false =>
          have hr : decide (L1 = L2) = false := decide_eq_false (fun e => of_decide_eq_false hsb.out (by simp only [e]))
          rw [hrb.out] at hr
          replace hr := Lib.hid hr
          go_wp2
          go_ret
          exact ⟨by rw [hr.out]; rfl, hkw2.out⟩
      · have hr : decide (L1 = L2) = true := decide_eq_true (List.ext_getElem (by rw [hM1.out, hM2.out]) (fun j h1 h2 => hno.out j h1 h2 (by rw [hM1.out] at h1; omega)))
        rw [hrb.out] at hr
        replace hr := Lib.hid hr
        go_wp2
        go_ret
        exact ⟨by rw [hr.out]; rfl, hkw.out⟩
  · have hne1 : ((M1 : Int) != M2) = true := by simp; omega
    have hr : decide (L1 = L2) = false := decide_eq_false (fun e => hne (by rw [← hM1.out, ← hM2.out, e]))
    rw [hrb.out] at hr
    replace hr := Lib.hid hr
    go_enter Try.func12, Try.ntmps12
    go_wp2
    go_ret
    exact ⟨by rw [hr.out]; rfl, Keeps.refl _ _⟩
end Go.Proofs.Ythfdngjbcgkkfaa

namespace Go.Proofs.Ythfdngjbcgkkfaa
open Go.RowKit

def Tr.shown (t : Tr) : Bool := t.state == 1 || (t.state == 2 || t.rf)
/-- What a trace claims. -/
def ClaimsV (w : World) (t : Tr) (v : Value) : Prop :=
  (t.shown = false ∧ v = .slice none 0 0) ∨ (t.shown = true ∧ ∃ P Y, LC w v P ∧ SortedA t Y ∧ ClaimsP t Y P)
def ClaimsPost (w : World) (t : Tr) (e : Ending) (w' : World) : Prop := ∃ v, e = .returned v ∧ ClaimsV w' t v ∧ Keeps [] w w'
set_option maxRecDepth 100000 in
set_option maxHeartbeats 4000000 in
theorem claimsT_c (w : World) (B bt bm : Nat) (vo vh vg : Value) (t : Tr) (h : TrM w B bt bm vo vh vg t) (hl : t.qs.length ≤ 1000) :
    Calls Try.prog 13 #[.pointer (some ⟨bt, 0, none⟩)] w (ClaimsPost w t) := by
  have hcl := claims_c w B bt bm vo vh vg t h hl
  have c9 := h.cells.2.2.2.2.2.2.2.2.2.1
  have c11 := h.cells.2.2.2.2.2.2.2.2.2.2.2
  obtain ⟨rf, hrf⟩ : ∃ b, t.rf = b := ⟨_, rfl⟩
  rw [hrf] at c11
  obtain ⟨sh, hsh⟩ : ∃ b, t.shown = b := ⟨_, rfl⟩
  have hsd : sh = (t.state == 1 || (t.state == 2 || rf)) := by rw [← hsh, ← hrf]; rfl
  replace hcl := Lib.hid hcl
  replace hrf := Lib.hid hrf
  replace hsh := Lib.hid hsh
  replace hsd := Lib.hid hsd
  clear h
  have done : ∀ (e : Ending) (w' : World), sh = true → ClmPost w t e w' → ∃ v, e = .returned v ∧ Hid (ClaimsV w' t v) ∧ Hid (Keeps [] w w') := by
    rintro e w' h1 ⟨vc, P, V, Bc, Y, rfl, g1, g2, g3, g4, g5⟩
    exact ⟨vc, rfl, Lib.hid (.inr ⟨hsh.out.trans h1, P, Y, g2.lc, g3, g4⟩), Lib.hid g5⟩
  replace done := Lib.hid done
  by_cases s1 : t.state = 1
  · have hs : sh = true := by rw [hsd.out, s1]; rfl
    rw [s1] at c9
    replace hs := Lib.hid hs
    replace s1 := Lib.hid s1
    go_enter Try.func13, Try.ntmps13
    go_wp2_with fail
    refine hcl.out.mono ?_
    intro e w1 hp
    obtain ⟨v, rfl, h1, h2⟩ := done.out e w1 hs.out hp
    clear hp
    go_wp2
    go_ret
    exact ⟨v, rfl, h1.out, h2.out⟩
  · have b1 : (t.state != 1) = true := by simpa using s1
    by_cases s2 : t.state = 2
    · have hs : sh = true := by rw [hsd.out, s2]; rfl
      rw [s2] at c9
      replace hs := Lib.hid hs
      replace s2 := Lib.hid s2
      replace s1 := Lib.hid s1
      clear b1
      go_enter Try.func13, Try.ntmps13
      go_wp2_with fail
      refine hcl.out.mono ?_
      intro e w1 hp
      obtain ⟨v, rfl, h1, h2⟩ := done.out e w1 hs.out hp
      clear hp
      go_wp2
      go_ret
      exact ⟨v, rfl, h1.out, h2.out⟩
    · have b2 : (t.state != 2) = true := by simpa using s2
      cases rf with
      | true =>
        have hs : sh = true := by rw [hsd.out]; simp
        replace hs := Lib.hid hs
        replace s2 := Lib.hid s2
        replace s1 := Lib.hid s1
        go_enter Try.func13, Try.ntmps13
        go_wp2_with fail
        refine hcl.out.mono ?_
        intro e w1 hp
        obtain ⟨v, rfl, h1, h2⟩ := done.out e w1 hs.out hp
        clear hp
        go_wp2
        go_ret
        exact ⟨v, rfl, h1.out, h2.out⟩
      | false =>
        have hs : sh = false := by rw [hsd.out]; simp [s1, s2]
        replace hs := Lib.hid hs
        replace s2 := Lib.hid s2
        replace s1 := Lib.hid s1
        go_enter Try.func13, Try.ntmps13
        go_wp2
        go_ret
        exact ⟨_, rfl, .inl ⟨hsh.out.trans hs.out, rfl⟩, Keeps.refl _ _⟩
end Go.Proofs.Ythfdngjbcgkkfaa

namespace Go.Proofs.Ythfdngjbcgkkfaa
open Go.RowKit
def aw0 : Tr := Tr.new 1 1 (2, 5, 0)
def aw1 : Tr := aw0.queries.1
def aa1 : Ans := ⟨1, 2, 5, 3, true, false, 2, [(2, 9, 4)]⟩
def aa2 : Ans := ⟨2, 1, 9, 7, true, false, 6, [(1, 5, 8)]⟩
def aw2 : Tr := (aw1.answer aa1).1
def aw3 : Tr := (aw2.answer aa2).1
def awW : List PCl := [⟨1, 3, [(2, 5, 8)], [(2, 9, 6)], []⟩, ⟨2, 7, [(1, 9, 4)], [(1, 5, 2)], []⟩]
theorem aw_q : aw0.queries.2 = [(1, 5, 2)] := by decide +kernel
theorem aw_r1 : (aw1.answer aa1).2 = 0 := by decide +kernel
theorem aw_r2 : (aw2.answer aa2).2 = 0 := by decide +kernel
theorem aw_s : aw3.state = 1 := by decide +kernel
theorem aw_l : aw1.hist.length ≤ 100000 ∧ aw1.qs.length + aa1.ins.length ≤ 1000 ∧ aw2.hist.length ≤ 100000 ∧ aw2.qs.length + aa2.ins.length ≤ 1000 ∧ aw3.qs.length ≤ 1000 := by decide +kernel
theorem aw_rec : aw3.rec'.map (·.2) = [aa1, aa2] := by decide +kernel
theorem aw_raw : rawOf aw3 (outsOf [aa1, aa2]) [aa1, aa2] = awW := by decide +kernel
theorem aw_sorted : SortedA aw3 [aa1, aa2] := ⟨by rw [aw_rec], by simp [qlt, Ans.q, aa1, aa2]⟩
theorem aw_ok1 : aa1.Ok := ⟨⟨by decide +kernel, by decide +kernel, by decide +kernel⟩, by decide +kernel, by decide +kernel, by decide +kernel, by decide +kernel⟩
theorem aw_ok2 : aa2.Ok := ⟨⟨by decide +kernel, by decide +kernel, by decide +kernel⟩, by decide +kernel, by decide +kernel, by decide +kernel, by decide +kernel⟩
theorem aw_claims {P : List PCl} {Y : List Ans} (hY : SortedA aw3 Y) (hP : ClaimsP aw3 Y P) : P = awW := by
  obtain rfl := hY.uniq aw_sorted
  unfold ClaimsP at hP
  rw [aw_raw] at hP
  obtain ⟨hl, h⟩ := hP
  have key : ∀ (p q : PCl), p.m = q.m ∧ p.ep = q.ep ∧ (∀ j, j < 3 → (p.at j).Perm (q.at j) ∧ (p.at j).Pairwise (fun x y => ¬ tlt y x)) → (∀ j, j < 3 → (q.at j).length ≤ 1) → p = q := by
    intro p q hpq hq
    obtain ⟨a, b, c, d, e⟩ := p
    obtain ⟨a', b', c', d', e'⟩ := q
    obtain ⟨h1, h2, h3⟩ := hpq
    have one : ∀ {x y : List T3}, x.Perm y → y.length ≤ 1 → x = y := by
      intro x y hp hy
      match y, hy with
      | [], _ => exact List.perm_nil.1 hp
      | [z], _ => exact List.perm_singleton.1 hp
    have e0 := one (h3 0 (by omega)).1 (hq 0 (by omega))
    have e1 := one (h3 1 (by omega)).1 (hq 1 (by omega))
    have e2 := one (h3 2 (by omega)).1 (hq 2 (by omega))
    simp only [PCl.at] at h1 h2 e0 e1 e2
    subst h1 h2 e0 e1 e2
    rfl
  refine List.ext_getElem hl (fun k h1 h2 => key _ _ (h k h1 h2) (fun j hj => ?_))
  have hk : k < 2 := h2
  match k, hk, j, hj with
  | 0, _, 0, _ => simp [awW, PCl.at]
  | 0, _, 1, _ => simp [awW, PCl.at]
  | 0, _, 2, _ => simp [awW, PCl.at]
  | 1, _, 0, _ => simp [awW, PCl.at]
  | 1, _, 1, _ => simp [awW, PCl.at]
  | 1, _, 2, _ => simp [awW, PCl.at]
theorem one_need (w : World) (b : Nat) (x : Int) (y : Nat) (yi : Int) (z : Int) (hy : (y : Int) = yi) (hb : w.heap.size = b) : shT.R (w.alloc (.cells #[.int .i64 x, .int .u64 yi, .int .i64 z] tN)) (.slice (some ⟨b, 0, none⟩) 1 1) [(x, y, z)] := by
  subst hb hy
  exact (Sh.O.one shT w (x, y, z) #[.int .i64 x, .int .u64 y, .int .i64 z] tN 0 rfl (by omega)).r
theorem want_lc (w : World) : LC (((((w.alloc (.cells #[.int .i64 2, .int .u64 5, .int .i64 8] tN)).alloc (.cells #[.int .i64 2, .int .u64 9, .int .i64 6] tN)).alloc (.cells #[.int .i64 1, .int .u64 9, .int .i64 4] tN)).alloc (.cells #[.int .i64 1, .int .u64 5, .int .i64 2] tN)).alloc
      (.cells #[.int .i64 1, .int .i64 3, .slice (some ⟨w.heap.size, 0, none⟩) 1 1, .slice (some ⟨w.heap.size + 1, 0, none⟩) 1 1, .slice none 0 0, .int .i64 2, .int .i64 7, .slice (some ⟨w.heap.size + 1 + 1, 0, none⟩) 1 1, .slice (some ⟨w.heap.size + 1 + 1 + 1, 0, none⟩) 1 1, .slice none 0 0] tC))
    (.slice (some ⟨w.heap.size + 1 + 1 + 1 + 1, 0, none⟩) 2 2) awW := by
  have r1 := one_need w _ 2 5 5 8 rfl rfl
  have r2 := one_need (w.alloc (.cells #[.int .i64 2, .int .u64 5, .int .i64 8] tN)) (w.heap.size + 1) 2 9 9 6 rfl (by simp)
  have r3 := one_need ((w.alloc (.cells #[.int .i64 2, .int .u64 5, .int .i64 8] tN)).alloc (.cells #[.int .i64 2, .int .u64 9, .int .i64 6] tN)) (w.heap.size + 1 + 1) 1 9 9 4 rfl (by simp)
  have r4 := one_need (((w.alloc (.cells #[.int .i64 2, .int .u64 5, .int .i64 8] tN)).alloc (.cells #[.int .i64 2, .int .u64 9, .int .i64 6] tN)).alloc (.cells #[.int .i64 1, .int .u64 9, .int .i64 4] tN)) (w.heap.size + 1 + 1 + 1) 1 5 5 2 rfl (by simp)
  have hsz : ((((w.alloc (.cells #[.int .i64 2, .int .u64 5, .int .i64 8] tN)).alloc (.cells #[.int .i64 2, .int .u64 9, .int .i64 6] tN)).alloc (.cells #[.int .i64 1, .int .u64 9, .int .i64 4] tN)).alloc (.cells #[.int .i64 1, .int .u64 5, .int .i64 2] tN)).heap.size = w.heap.size + 1 + 1 + 1 + 1 := by simp
  have k1 := fun (o : Obj) (w : World) => (Keeps.refl [] w).alloc o
  have q1 := (((r1.keeps (k1 (.cells #[.int .i64 2, .int .u64 9, .int .i64 6] tN) _)).keeps (k1 (.cells #[.int .i64 1, .int .u64 9, .int .i64 4] tN) _)).keeps (k1 (.cells #[.int .i64 1, .int .u64 5, .int .i64 2] tN) _))
  have q2 := ((r2.keeps (k1 (.cells #[.int .i64 1, .int .u64 9, .int .i64 4] tN) _)).keeps (k1 (.cells #[.int .i64 1, .int .u64 5, .int .i64 2] tN) _))
  have q3 := (r3.keeps (k1 (.cells #[.int .i64 1, .int .u64 5, .int .i64 2] tN) _))
  generalize ((((w.alloc (.cells #[.int .i64 2, .int .u64 5, .int .i64 8] tN)).alloc (.cells #[.int .i64 2, .int .u64 9, .int .i64 6] tN)).alloc (.cells #[.int .i64 1, .int .u64 9, .int .i64 4] tN)).alloc (.cells #[.int .i64 1, .int .u64 5, .int .i64 2] tN)) = W at *
  rw [← hsz]
  have hR := Sh.R.made shC W [⟨1, 3, (some ⟨w.heap.size, 0, none⟩, 1, 1), (some ⟨w.heap.size + 1, 0, none⟩, 1, 1), nilT⟩, ⟨2, 7, (some ⟨w.heap.size + 1 + 1, 0, none⟩, 1, 1), (some ⟨w.heap.size + 1 + 1 + 1, 0, none⟩, 1, 1), nilT⟩] #[.int .i64 1, .int .i64 3, .slice (some ⟨w.heap.size, 0, none⟩) 1 1, .slice (some ⟨w.heap.size + 1, 0, none⟩) 1 1, .slice none 0 0, .int .i64 2, .int .i64 7, .slice (some ⟨w.heap.size + 1 + 1, 0, none⟩) 1 1, .slice (some ⟨w.heap.size + 1 + 1 + 1, 0, none⟩) 1 1, .slice none 0 0] tC rfl (by simp [maxLen]) 2 rfl
  refine ⟨_, hR, rfl, fun k x p hx hp => ?_⟩
  match k with
  | 0 =>
    simp [awW] at hx hp
    subst hx hp
    exact ⟨rfl, rfl, q1.keeps (k1 _ _), q2.keeps (k1 _ _), Sh.R.nil _ _⟩
  | 1 =>
    simp [awW] at hx hp
    subst hx hp
    exact ⟨rfl, rfl, q3.keeps (k1 _ _), r4.keeps (k1 _ _), Sh.R.nil _ _⟩
  | k + 2 => simp [awW] at hp
end Go.Proofs.Ythfdngjbcgkkfaa

namespace Go.Proofs.Ythfdngjbcgkkfaa
open Go.RowKit

def nmS (i : Int) : ByteArray := if i = 0 then ⟨#[97, 115, 107, 105, 110, 103]⟩ else if i = 1 then ⟨#[99, 111, 110, 102, 105, 114, 109, 105, 110, 103]⟩ else if i = 2 then ⟨#[97, 103, 114, 101, 101, 100]⟩ else if i = 3 then ⟨#[108, 105, 118, 101]⟩ else if i = 4 then ⟨#[117, 110, 100, 101, 99, 105, 100, 101, 100]⟩ else ⟨#[]⟩
set_option maxRecDepth 100000 in
set_option maxHeartbeats 2000000 in
theorem stateName_c (w : World) (i : Int) (hi : W64 i) :
    Calls Try.prog 16 #[.int .i64 i] w fun e w' => e = .returned (.string (nmS i)) ∧ Keeps [] w w' := by
  obtain ⟨rs, hrs⟩ : ∃ s, nmS i = s := ⟨_, rfl⟩
  rw [hrs]
  replace hrs := Lib.hid hrs
  have hk := (Keeps.refl [] w).alloc (.cells #[.string ⟨#[97, 115, 107, 105, 110, 103]⟩, .string ⟨#[99, 111, 110, 102, 105, 114, 109, 105, 110, 103]⟩, .string ⟨#[97, 103, 114, 101, 101, 100]⟩, .string ⟨#[108, 105, 118, 101]⟩, .string ⟨#[117, 110, 100, 101, 99, 105, 100, 101, 100]⟩] 85)
  rw [w64_iff] at hi
  by_cases h0 : i < 0
  · have hr : nmS i = ⟨#[]⟩ := by unfold nmS; rw [if_neg (by omega), if_neg (by omega), if_neg (by omega), if_neg (by omega), if_neg (by omega)]
    rw [hrs.out] at hr
    have b0 : decide (i < 0) = true := by simpa using h0
    replace hr := Lib.hid hr
    go_enter Try.func16, Try.ntmps16
    go_wp2
    go_ret
    exact ⟨by rw [hr.out]; rfl, hk⟩
  · by_cases h5 : 5 ≤ i
    · have hr : nmS i = ⟨#[]⟩ := by unfold nmS; rw [if_neg (by omega), if_neg (by omega), if_neg (by omega), if_neg (by omega), if_neg (by omega)]
      rw [hrs.out] at hr
      replace hr := Lib.hid hr
      have b0 : decide (i < 0) = false := by simpa using h0
      have b1 : decide (5 ≤ i) = true := by simpa using h5
      go_enter Try.func16, Try.ntmps16
      go_wp2
      go_ret
      exact ⟨by rw [hr.out]; rfl, hk⟩
    · have hc : i = 0 ∨ i = 1 ∨ i = 2 ∨ i = 3 ∨ i = 4 := by omega
      rcases hc with rfl | rfl | rfl | rfl | rfl
      all_goals
        have hr := hrs.out
        replace hr := Lib.hid hr
        clear hi h0 h5 hrs
        go_enter Try.func16, Try.ntmps16
        go_wp2
        go_ret
        exact ⟨by rw [← hr.out]; rfl, hk⟩
end Go.Proofs.Ythfdngjbcgkkfaa

namespace Go.Proofs.Ythfdngjbcgkkfaa
open Go.RowKit
set_option maxRecDepth 100000 in
set_option maxHeartbeats 10000000 in
theorem awake_c (w : World) : Calls Try.prog 9 #[] w fun e w' => e = .returned (.bool true) ∧ Keeps [] w w' := by
  go_enter Try.func9, Try.ntmps9
  go_wp2_with fail
  refine (new_c w 1 1 (2, 5, 0) (by decide +kernel) (by decide +kernel) (by decide +kernel)).mono ?_
  rintro e w1 ⟨bt, bm, vo, rfl, hT, hk1⟩
  have hq := queries_c w1 _ bt bm vo _ _ _ 0 hT rfl (by simp [Tr.new]) (by simp [Tr.new])
  have hB1 := hT.bB.1
  replace hq := Lib.hid hq
  replace hT := Lib.hid hT
  replace hk1 := Lib.hid hk1
  go_wp2_with fail
  refine hq.out.mono ?_
  rintro e w2 ⟨v, rfl, hO, hT2, hmv2⟩
  rw [show (Tr.new 1 1 (2, 5, 0)).queries.2 = [(1, 5, 2)] from aw_q] at hO
  replace hT2 : TrM w2 w.heap.size bt bm vo (.slice none 0 0) (.slice none 0 0) aw1 := hT2
  have hk2 : Keeps [] w w2 := hk1.out.fresh hmv2.k (fun b hb => .inr (hT.out.own_tag hb).1)
  obtain ⟨g, c, rfl, _, _⟩ := hO.form1 (by decide)
  obtain ⟨g', o', c', e1, he⟩ := hO.r.elem (k := 0) (by decide)
  cases e1
  have f0 := he 0 _ rfl
  have f1 := he 1 _ rfl
  have f2 := he 2 _ rfl
  simp [shT] at f0 f1 f2
  have hne := fun w => neN w (1, 5, 2) (1, 5, 2)
  simp only [ne_eq, not_true_eq_false, decide_false, tV] at hne
  have hI := Sh.O.one shT w2 (2, 9, 4) #[.int .i64 2, .int .u64 9, .int .i64 4] tI 0 rfl (by omega)
  have hkI := (Keeps.refl [] w2).alloc (.cells #[.int .i64 2, .int .u64 9, .int .i64 4] tI)
  have hT2' := hT2.keeps hkI
  have hans := answer_c (w2.alloc (.cells #[.int .i64 2, .int .u64 9, .int .i64 4] tI)) w.heap.size bt bm vo _ _ aw1 ⟨1, 2, 5, 3, true, false, 2, some ⟨w2.heap.size, 0, none⟩, 1, 1⟩ aa1 hT2' ⟨rfl, rfl, rfl, rfl, rfl, rfl, rfl, hI.r⟩ aw_ok1 (fun b hb _ e => by
    have h1 := (hT2.own_tag hb).2.1
    simp [AnV.v, Value.ownBlock] at e
    omega) (by have := hk2.size; simp; omega) aw_l.1 aw_l.2.1
  simp only [aV, AnV.v] at hans
  have hkT := hk2.trans hkI
  replace hans := Lib.hid hans
  replace hT2' := Lib.hid hT2'
  replace hkT := Lib.hid hkT
  clear hO hT2 hmv2 hk2 he hI hkI hT hk1 hq
  go_wp2_with fail
  refine hans.out.mono ?_
  rintro e w3 ⟨vo3, vh3, rfl, hT3, hmv3⟩
  rw [aw_r1]
  replace hT3 : TrM w3 w.heap.size bt bm vo3 vh3 (.slice none 0 0) aw2 := hT3
  have hk3 : Keeps [] w w3 := hkT.out.fresh hmv3.k (fun b hb => .inr (hT2'.out.own_tag hb).1)
  have hI := Sh.O.one shT w3 (1, 5, 8) #[.int .i64 1, .int .u64 5, .int .i64 8] tI 0 rfl (by omega)
  have hkI := (Keeps.refl [] w3).alloc (.cells #[.int .i64 1, .int .u64 5, .int .i64 8] tI)
  have hT3' := hT3.keeps hkI
  have hans2 := answer_c (w3.alloc (.cells #[.int .i64 1, .int .u64 5, .int .i64 8] tI)) w.heap.size bt bm vo3 vh3 _ aw2 ⟨2, 1, 9, 7, true, false, 6, some ⟨w3.heap.size, 0, none⟩, 1, 1⟩ aa2 hT3' ⟨rfl, rfl, rfl, rfl, rfl, rfl, rfl, hI.r⟩ aw_ok2 (fun b hb _ e => by
    have h1 := (hT3.own_tag hb).2.1
    simp [AnV.v, Value.ownBlock] at e
    omega) (by have := hk3.size; simp; omega) aw_l.2.2.1 aw_l.2.2.2.1
  simp only [aV, AnV.v] at hans2
  have hkT3 := hk3.trans hkI
  replace hans2 := Lib.hid hans2
  replace hT3' := Lib.hid hT3'
  replace hkT3 := Lib.hid hkT3
  clear hT3 hmv3 hk3 hI hkI hT2' hkT hans f0 f1 f2 hne
  go_wp2_with fail
  refine hans2.out.mono ?_
  rintro e w4 ⟨vo4, vh4, rfl, hT4, hmv4⟩
  rw [aw_r2]
  replace hT4 : TrM w4 w.heap.size bt bm vo4 vh4 (.slice none 0 0) aw3 := hT4
  have hk4 : Keeps [] w w4 := hkT3.out.fresh hmv4.k (fun b hb => .inr (hT3'.out.own_tag hb).1)
  have hst := state_c w4 _ _ _ _ _ _ _ hT4
  rw [aw_s] at hst
  replace hst := Lib.hid hst
  replace hT4 := Lib.hid hT4
  replace hk4 := Lib.hid hk4
  clear hmv4 hT3' hkT3 hans2
  go_wp2_with fail
  refine hst.out.mono ?_
  rintro e w5 ⟨rfl, rfl⟩
  have hW := want_lc w4
  have hkW : Keeps [] w4 (((((w4.alloc (.cells #[.int .i64 2, .int .u64 5, .int .i64 8] tN)).alloc (.cells #[.int .i64 2, .int .u64 9, .int .i64 6] tN)).alloc (.cells #[.int .i64 1, .int .u64 9, .int .i64 4] tN)).alloc (.cells #[.int .i64 1, .int .u64 5, .int .i64 2] tN)).alloc
      (.cells #[.int .i64 1, .int .i64 3, .slice (some ⟨w4.heap.size, 0, none⟩) 1 1, .slice (some ⟨w4.heap.size + 1, 0, none⟩) 1 1, .slice none 0 0, .int .i64 2, .int .i64 7, .slice (some ⟨w4.heap.size + 1 + 1, 0, none⟩) 1 1, .slice (some ⟨w4.heap.size + 1 + 1 + 1, 0, none⟩) 1 1, .slice none 0 0] tC)) := ((((((Keeps.refl [] w4).alloc _).alloc _).alloc _).alloc _).alloc _)
  have hcl := claimsT_c _ _ _ _ _ _ _ _ (hT4.out.keeps hkW) aw_l.2.2.2.2
  have hkw := hk4.out.trans hkW
  replace hW := Lib.hid hW
  replace hcl := Lib.hid hcl
  replace hkw := Lib.hid hkw
  clear hkW hT4 hst hk4
  go_wp2_with fail
  refine hcl.out.mono ?_
  rintro e w6 ⟨v6, rfl, hv, hk6⟩
  have hsh : aw3.shown = true := by unfold Tr.shown; rw [aw_s]; rfl
  have hP6 : LC w6 v6 awW := by
    rcases hv with ⟨h1, _⟩ | ⟨_, P, Y, h2, h3, h4⟩
    · rw [hsh] at h1; cases h1
    · rw [aw_claims h3 h4] at h2; exact h2
  have hW6 := hW.out.keeps hk6
  have hsame := sameClaims_c w6 _ _ _ _ hP6 hW6
  rw [decide_eq_true rfl] at hsame
  have hkw6 := hkw.out.trans hk6
  replace hsame := Lib.hid hsame
  replace hkw6 := Lib.hid hkw6
  clear hv hk6 hP6 hW6 hW hkw hcl
  go_wp2_with fail
  refine hsame.out.mono ?_
  rintro e w7 ⟨rfl, hk7⟩
  have hnm := stateName_c w7 1 (by decide +kernel)
  have hkw7 := hkw6.out.trans hk7
  replace hnm := Lib.hid hnm
  replace hkw7 := Lib.hid hkw7
  clear hk7 hkw6 hsame
  go_wp2_with fail
  refine hnm.out.mono ?_
  rintro e w8 ⟨rfl, hk8⟩
  rw [show nmS 1 = ⟨#[99, 111, 110, 102, 105, 114, 109, 105, 110, 103]⟩ from rfl]
  have hkw8 := hkw7.out.trans hk8
  replace hkw8 := Lib.hid hkw8
  go_wp2
  go_ret
  exact ⟨rfl, hkw8.out⟩
end Go.Proofs.Ythfdngjbcgkkfaa

namespace Go.Proofs.Ythfdngjbcgkkfaa
open Go.RowKit
set_option maxRecDepth 100000 in
set_option maxHeartbeats 4000000 in
theorem names_w (w : World) (i : Int) (hi : W64 i) : Calls Try.prog 5 #[.int .i64 i] w fun e w' => e = .returned (.bool true) ∧ Keeps [] w w' := by
  have hnm := fun w => stateName_c w i hi
  rw [w64_iff] at hi
  by_cases h0 : i < 0
  · have hr : nmS i = ⟨#[]⟩ := by unfold nmS; rw [if_neg (by omega), if_neg (by omega), if_neg (by omega), if_neg (by omega), if_neg (by omega)]
    rw [hr] at hnm
    have b0 : decide (i < 0) = true := by simpa using h0
    replace hnm := Lib.hid hnm
    go_enter Try.func5, Try.ntmps5
    go_wp2_with fail
    refine (awake_c w).mono ?_
    rintro e w1 ⟨rfl, hk1⟩
    replace hk1 := Lib.hid hk1
    go_wp2_with fail
    refine (hnm.out _).mono ?_
    rintro e w2 ⟨rfl, hk2⟩
    have hk := (hk1.out.alloc _).trans hk2
    replace hk := Lib.hid hk
    clear hk2
    go_wp2
    go_ret
    exact ⟨rfl, hk.out⟩
  · by_cases h5 : 5 ≤ i
    · have hr : nmS i = ⟨#[]⟩ := by unfold nmS; rw [if_neg (by omega), if_neg (by omega), if_neg (by omega), if_neg (by omega), if_neg (by omega)]
      rw [hr] at hnm
      have b0 : decide (i < 0) = false := by simpa using h0
      have b1 : decide (5 ≤ i) = true := by simpa using h5
      replace hnm := Lib.hid hnm
      go_enter Try.func5, Try.ntmps5
      go_wp2_with fail
      refine (awake_c w).mono ?_
      rintro e w1 ⟨rfl, hk1⟩
      replace hk1 := Lib.hid hk1
      go_wp2_with fail
      refine (hnm.out _).mono ?_
      rintro e w2 ⟨rfl, hk2⟩
      have hk := (hk1.out.alloc _).trans hk2
      replace hk := Lib.hid hk
      clear hk2
      go_wp2
      go_ret
      exact ⟨rfl, hk.out⟩
    · have hc : i = 0 ∨ i = 1 ∨ i = 2 ∨ i = 3 ∨ i = 4 := by omega
      rcases hc with rfl | rfl | rfl | rfl | rfl
      all_goals
        simp only [nmS, if_true, if_false, Nat.reduceEqDiff, Int.reduceEq] at hnm
        replace hnm := Lib.hid hnm
        clear hi h0 h5
        go_enter Try.func5, Try.ntmps5
        go_wp2_with fail
        refine (awake_c w).mono ?_
        rintro e w1 ⟨rfl, hk1⟩
        replace hk1 := Lib.hid hk1
        go_wp2
        have hbL := heap_alloc_new w1 (.cells #[.string ⟨#[97, 115, 107, 105, 110, 103]⟩, .string ⟨#[99, 111, 110, 102, 105, 114, 109, 105, 110, 103]⟩, .string ⟨#[97, 103, 114, 101, 101, 100]⟩, .string ⟨#[108, 105, 118, 101]⟩, .string ⟨#[117, 110, 100, 101, 99, 105, 100, 101, 100]⟩] 9)
        have hkL := hk1.out.alloc (.cells #[.string ⟨#[97, 115, 107, 105, 110, 103]⟩, .string ⟨#[99, 111, 110, 102, 105, 114, 109, 105, 110, 103]⟩, .string ⟨#[97, 103, 114, 101, 101, 100]⟩, .string ⟨#[108, 105, 118, 101]⟩, .string ⟨#[117, 110, 100, 101, 99, 105, 100, 101, 100]⟩] 9)
        generalize (w1.alloc (.cells #[.string ⟨#[97, 115, 107, 105, 110, 103]⟩, .string ⟨#[99, 111, 110, 102, 105, 114, 109, 105, 110, 103]⟩, .string ⟨#[97, 103, 114, 101, 101, 100]⟩, .string ⟨#[108, 105, 118, 101]⟩, .string ⟨#[117, 110, 100, 101, 99, 105, 100, 101, 100]⟩] 9)) = WL at *
        obtain ⟨c0, c1, c2, c3, c4, _⟩ := cells5 hbL
        replace hkL := Lib.hid hkL
        clear hbL
        refine Free.wp_region_chain (fun i => i == 1) (fun i => true) (fun _ _ => False) (by kernel_rfl) (by kernel_rfl) (by kernel_rfl) ?_
        (repeat (first | (apply Free.cw_pure rfl rfl; (intro w'; go_simp <;> exact rfl); go_frame) | (apply Free.cw_steady rfl rfl rfl; (intro w' hS; have q0 := Free.sx_cell hS c0 (fun _ _ hT => hT); have q1 := Free.sx_cell hS c1 (fun _ _ hT => hT); have q2 := Free.sx_cell hS c2 (fun _ _ hT => hT); have q3 := Free.sx_cell hS c3 (fun _ _ hT => hT); have q4 := Free.sx_cell hS c4 (fun _ _ hT => hT); go_simp <;> exact rfl); go_frame) | (refine Free.cw_skip rfl ?_; go_frame)))
        refine Free.cw_loud rfl rfl (fun K hK => ?_)
        go_wp2_with fail
        refine (hnm.out _).mono ?_
        rintro e w2 ⟨rfl, hk2⟩
        refine hK _ _ rfl (Free.KeepsP.of hk2 (by simp)) ?_
        clear hK K
        have hkf := Lib.hid ((hkL.out.trans ((Keeps.refl [] WL).drew)).trans hk2)
        clear hk2
        (repeat (first | (apply Free.cw_pure rfl rfl; (intro w'; go_simp <;> exact rfl); go_frame) | (apply Free.cw_steady rfl rfl rfl; (intro w' hS; have q0 := Free.sx_cell hS c0 (fun _ _ hT => hT); have q1 := Free.sx_cell hS c1 (fun _ _ hT => hT); have q2 := Free.sx_cell hS c2 (fun _ _ hT => hT); have q3 := Free.sx_cell hS c3 (fun _ _ hT => hT); have q4 := Free.sx_cell hS c4 (fun _ _ hT => hT); go_simp <;> exact rfl); go_frame) | (refine Free.cw_skip rfl ?_; go_frame)))
        refine Free.cw_nil ?_
        go_wp2
        go_ret
        exact ⟨rfl, hkf.out⟩
end Go.Proofs.Ythfdngjbcgkkfaa
