/- Texts that the laws lean on, in the order in which they build. Trace.claims. The claims that follow from sorted answers, machine by machine; they are the only ones. The specification's sorted answers and claims: plain. A certificate, and what its check says (plain). -/
import Derived.Test.YtiplgpefapeapaaGreatE3
import Derived.Deep.CutRange
set_option linter.unusedVariables false
set_option linter.unusedSimpArgs false
namespace Go.Proofs.YtiplgpefapeapaaGreat
open Go.RowKit

def ClaimsP (t : Tr) (Y : List Ans) (P : List PCl) : Prop :=
  P.length = (rawOf t (outsOf Y) Y).length ∧ ∀ (k : Nat) (h1 : k < P.length) (h2 : k < (rawOf t (outsOf Y) Y).length), P[k].m = (rawOf t (outsOf Y) Y)[k].m ∧ P[k].ep = (rawOf t (outsOf Y) Y)[k].ep ∧
    ∀ j, j < 3 → (P[k].at j).Perm ((rawOf t (outsOf Y) Y)[k].at j) ∧ (P[k].at j).Pairwise (fun x y => ¬ tlt y x)
def ClmPost (w : World) (t : Tr) (e : Ending) (w' : World) : Prop :=
  ∃ vc P V Bc Y, e = .returned vc ∧ w.heap.size ≤ Bc ∧ CL w' Bc vc P V ∧ SortedA t Y ∧ ClaimsP t Y P ∧ Keeps [] w w'
theorem SortedA.ok {w : World} {B bt bm : Nat} {vo vh vg : Value} {t : Tr} {Y : List Ans} (h : SortedA t Y) (hT : TrM w B bt bm vo vh vg t) : (∀ a ∈ Y, a.Ok) ∧ Y.length ≤ t.qs.length := by
  constructor
  · intro a ha
    have := h.1.mem_iff.1 ha
    obtain ⟨p, hp, rfl⟩ := List.mem_map.1 this
    exact hT.inv.ro p hp
  · have := h.1.length_eq
    rw [List.length_map] at this
    have h2 := (rec_len t.qs).1
    simp only [Tr.rec'] at this
    omega
theorem map_ki {w w' : World} {bE : Nat} (hk : Keeps [bE] w w') {es : Array _} {c : Nat} (hb : w.heap[bE]? = some (Obj.map es c)) : KI w w' := hk.ki (fun b hb2 cs f e => by
  simp at hb2; subst hb2
  rw [hb] at e; cases e)
set_option maxRecDepth 100000 in
set_option maxHeartbeats 40000000 in
theorem claims_c (w : World) (B bt bm : Nat) (vo vh vg : Value) (t : Tr) (h : TrM w B bt bm vo vh vg t) (hl : t.qs.length ≤ 1000) :
    Calls Tryz.prog 63 #[.pointer (some ⟨bt, 0, none⟩)] w (ClmPost w t) := by
  have hans := answers_c w B bt bm vo vh vg t h (by omega)
  have hmm := @run_makeMap Tryz.prog
  have hlt := h.lt
  replace hans := Lib.hid hans
  replace h := Lib.hid h
  go_enter Tryz.func63, Tryz.ntmps63
  go_wp2_with fail
  refine hans.out.mono ?_
  rintro e w1 ⟨va, X, Y, rfl, hX, hLA, hS, hk1⟩
  obtain ⟨aa, ac, rfl⟩ := hX.form
  obtain ⟨N, hN⟩ : ∃ n, X.length = n := ⟨_, rfl⟩
  have hNY : Y.length = N := by rw [← hLA.1, hN]
  obtain ⟨hYok, hYl⟩ := hS.ok h.out
  rw [hN] at hX ⊢
  have hN1 : N ≤ 1000 := by omega
  have hM := MapS.M.made ktE (vf := zV) w1
  have hkM : Keeps [] w1 (w1.alloc (.map #[] 0)) := (Keeps.refl _ _).alloc _
  have hX2 := hX.keeps hkM
  have hLA2 := hLA.ki hkM.ki0
  have hk2 := hk1.trans hkM
  have hbE := heap_alloc_new w1 (.map #[] 0)
  have hz2 : (w1.alloc (.map #[] 0)).heap.size = w1.heap.size + 1 := by simp
  replace hk1s := hk1.size
  replace hX := Lib.hid hX2
  replace hLA := Lib.hid hLA2
  replace hk2 := Lib.hid hk2
  replace hM := Lib.hid hM
  replace hbE := Lib.hid hbE
  replace hS := Lib.hid hS
  replace hYok := Lib.hid hYok
  replace hN := Lib.hid hN
  replace hNY := Lib.hid hNY
  clear hX2 hLA2 hk1 hkM hans
  go_wp2
  generalize (w1.alloc (.map #[] 0)) = w2 at *
  obtain ⟨bE, hbEe⟩ : ∃ b, w1.heap.size = b := ⟨_, rfl⟩
  rw [hbEe] at hM hbE hz2 hk1s ⊢
  clear hmm hbEe
  go_loopw [28] (fun i wr => ∃ k : Nat, i = .int .i64 k ∧ k ≤ N ∧ Hid (MapS.M ktE zV wr bE ((Y.take k).foldl outsA [])) ∧ Hid (Keeps [bE] w2 wr) ∧ Hid (((Y.take k).foldl outsA []).length ≤ k * 100000)) (fun i _ => N - (intOf i).toNat)
  case atStart => exact ⟨0, rfl, by omega, hM, Lib.hid (Keeps.refl _ _), Lib.hid (by simp)⟩
  case round =>
    obtain ⟨k, rfl, hk, hMr, hkr, hln⟩ := hrel
    by_cases hlt2 : k < N
    --DEV1
    · have hir := map_ki hkr.out hbE.out
      have hXr := hX.out.keepS hkr.out (fun b hb e => by
        simp at hb; subst hb
        obtain ⟨cs, hc⟩ := hX.out.tag _ e
        rw [hbE.out] at hc; cases hc)
      have hLAr := hLA.out.ki hir
      have hkX : k < X.length := by rw [hN.out]; exact hlt2
      have hkY : k < Y.length := by rw [hNY.out]; exact hlt2
      obtain ⟨g, o, c', hv, he⟩ := hXr.r.elem hkX
      rw [hN.out] at hv
      cases hv
      have hxy := hLAr.2 k X[k] Y[k] (List.getElem?_eq_getElem _) (List.getElem?_eq_getElem _)
      have hao := hYok.out Y[k] (List.getElem_mem _)
      have hst : (Y.take (k + 1)).foldl outsA [] = outsA ((Y.take k).foldl outsA []) Y[k] := foldl_succ _ _ _ _ hkY
      obtain ⟨a, hae⟩ : ∃ a, Y[k] = a := ⟨_, rfl⟩
      rw [hae] at hxy hao hst
      obtain ⟨x, hxe⟩ : ∃ x, X[k] = x := ⟨_, rfl⟩
      rw [hxe] at hxy he
      clear hXr hLAr hkX hae hxe hir
      obtain ⟨x0, x1, x2, x3, x4, x5, x6, x7, x8, x9⟩ := x
      have f0 := he 0 _ rfl
      have f1 := he 1 _ rfl
      have f2 := he 2 _ rfl
      have f3 := he 3 _ rfl
      have f4 := he 4 _ rfl
      have f5 := he 5 _ rfl
      have f6 := he 6 _ rfl
      have f7 := he 7 _ rfl
      simp only [shA, AnV.v, Nat.add_zero] at f0 f1 f2 f3 f4 f5 f6 f7
      have hx0 : x0 = a.m := hxy.m
      have hins := hxy.ins
      simp only [AnV.v] at hins
      have hx8 : x8 = a.ins.length := by obtain ⟨_, _, e, _⟩ := hins.r.form; cases e; rfl
      subst hx0
      replace hins := Lib.hid hins
      replace hao := Lib.hid hao
      replace hst := Lib.hid hst
      replace hx8 := Lib.hid hx8
      clear he hxy hkY
      go_wp2
      have hkA : Keeps [bE] wr (wr.alloc (.cells #[.int .i64 a.m, .int .i64 x1, .int .u64 x2, .int .i64 x3, .bool x4, .bool x5, .int .i64 x6, .slice x7 x8 x9] tA)) := (Keeps.refl _ _).alloc _
      have hkA0 : Keeps [] wr (wr.alloc (.cells #[.int .i64 a.m, .int .i64 x1, .int .u64 x2, .int .i64 x3, .bool x4, .bool x5, .int .i64 x6, .slice x7 x8 x9] tA)) := (Keeps.refl _ _).alloc _
      have hbA := heap_alloc_new wr (.cells #[.int .i64 a.m, .int .i64 x1, .int .u64 x2, .int .i64 x3, .bool x4, .bool x5, .int .i64 x6, .slice x7 x8 x9] tA)
      generalize (wr.alloc (.cells #[.int .i64 a.m, .int .i64 x1, .int .u64 x2, .int .i64 x3, .bool x4, .bool x5, .int .i64 x6, .slice x7 x8 x9] tA)) = WA at *
      obtain ⟨XA, hXA⟩ : ∃ b, wr.heap.size = b := ⟨_, rfl⟩
      have hkrA := hkr.out.trans hkA
      have hMA := hMr.out.keeps ktE hkA0
      have hinsA := hins.out.ki hkA0.ki0
      have hbEX : bE < XA := by have := hkr.out.size; omega
      rw [hXA] at hbA ⊢
      clear hXA
      obtain ⟨acc, hacc⟩ : ∃ acc, (Y.take k).foldl outsA [] = acc := ⟨_, rfl⟩
      rw [hacc] at hMA hln hst
      replace hacc := Lib.hid hacc
      replace hkrA := Lib.hid hkrA
      replace hMA := Lib.hid hMA
      replace hinsA := Lib.hid hinsA
      replace hbA := Lib.hid hbA
      have hx8l : x8 ≤ 100000 := by rw [hx8.out]; exact hao.out.len
      clear hkr hMr hins hkA hkA0 f0 f1 f2 f3 f4 f5 f6 f7
      go_loopw [35] (fun i wi => ∃ j : Nat, i = .int .i64 j ∧ j ≤ x8 ∧ Hid (MapS.M ktE zV wi bE ((a.ins.take j).foldl (outA a.m) acc)) ∧ Hid (Keeps [bE] WA wi)) (fun i _ => x8 - (intOf i).toNat)
      case atStart => exact ⟨0, rfl, by omega, hMA, Lib.hid (Keeps.refl _ _)⟩
      case round =>
        obtain ⟨j, rfl, hj, hMi, hki⟩ := hrel
        by_cases hlt3 : j < x8
        · obtain ⟨es, ec, hmap⟩ := hMA.out.isMap
          have hinsi := hinsA.out.ki (map_ki hki.out hmap)
          have hja : j < a.ins.length := by rw [← hx8.out]; exact hlt3
          obtain ⟨g2, o2, c2, hv2, he2⟩ := hinsi.r.elem hja
          rw [← hx8.out] at hv2
          cases hv2
          have hxo := hao.out.ins _ (List.getElem_mem hja)
          have hst2 : (a.ins.take (j + 1)).foldl (outA a.m) acc = outA a.m ((a.ins.take j).foldl (outA a.m) acc) a.ins[j] := foldl_succ _ _ _ _ hja
          obtain ⟨y, hye⟩ : ∃ y, a.ins[j] = y := ⟨_, rfl⟩
          rw [hye] at he2 hxo hst2
          obtain ⟨y0, y1, y2⟩ := y
          have f0 := he2 0 _ rfl
          have f1 := he2 1 _ rfl
          have f2 := he2 2 _ rfl
          simp only [shT, Nat.add_zero] at f0 f1 f2
          have hbi := (hki.out.block XA (lt_of_blk hbA.out) (by simp; omega)).trans hbA.out
          obtain ⟨z0, _, _, _, _, _, _, _, _, zlt⟩ := cells8 hbi
          have hqk : qOk (a.m, y0, y1) := ⟨hao.out.q.1, hxo.1, hxo.2.1⟩
          obtain ⟨aj, haj⟩ : ∃ aj, (a.ins.take j).foldl (outA a.m) acc = aj := ⟨_, rfl⟩
          have hajl : aj.length < maxLen := by
            rw [← haj]
            have h1 := out_fold_len a.m (a.ins.take j) acc
            have h2 := hln.out
            have h3 : (a.ins.take j).length ≤ a.ins.length := by simp; omega
            have h4 := hao.out.len
            have h5 : k * 100000 ≤ 1000 * 100000 := Nat.mul_le_mul_right _ (by omega)
            unfold maxLen; omega
          rw [haj] at hMi hst2
          have hMj := hMi.out.keeps ktE ((Keeps.refl [] wr).alloc (.cells #[.int .i64 y0, .int .u64 y1, .int .i64 y2] tI))
          have hkj : Keeps [bE] WA (wr.alloc (.cells #[.int .i64 y0, .int .u64 y1, .int .i64 y2] tI)) := hki.out.alloc _
          have hlk := MapS.M.look_ok ktE Tryz.underlying133 (zV 0) zeroZ hMj hqk
          obtain ⟨ov, hov⟩ : ∃ ov : Int, ((MapS.get (a.m, y0, y1) aj).map zV).getD (zV 0) = zV ov := by
            cases MapS.get (a.m, y0, y1) aj with
            | none => exact ⟨_, rfl⟩
            | some u => exact ⟨u, rfl⟩
          obtain ⟨ob, hob⟩ : ∃ ob, (MapS.get (a.m, y0, y1) aj).isSome = ob := ⟨_, rfl⟩
          rw [hov, hob] at hlk
          simp only [ktE, qV, zV] at hlk
          clear hov hinsi he2 hbi hmap hye
          cases ob with
          | true =>
            have hsame : outA a.m aj (y0, y1, y2) = aj := if_pos hob
            rw [hsame] at hst2
            rw [← hst2] at hMj
            replace hst2 := Lib.hid hst2
            replace hMj := Lib.hid hMj
            replace hkj := Lib.hid hkj
            replace hob := Lib.hid hob
            replace haj := Lib.hid haj
            replace hqk := Lib.hid hqk
            clear hsame
            go_wp2
            go_roundw
            case rel => exact ⟨j + 1, rfl, by omega, hMj, hkj⟩
            case measure => simp [intOf]; omega
          | false =>
            have hnew : outA a.m aj (y0, y1, y2) = aj ++ [((a.m, y0, y1), y2)] := if_neg (by simp [hob])
            rw [hnew] at hst2
            have hget : MapS.get (a.m, y0, y1) aj = none := by simpa using hob
            obtain ⟨wk, hrun, hMk, hkk⟩ := MapS.M.putNew ktE Tryz.underlying133 hMj hqk hget hajl y2
            rw [← hst2] at hMk
            have hkw := hkj.trans hkk
            simp only [ktE, qV, zV] at hrun
            replace hst2 := Lib.hid hst2
            replace hMk := Lib.hid hMk
            replace hkw := Lib.hid hkw
            replace hob := Lib.hid hob
            replace haj := Lib.hid haj
            replace hqk := Lib.hid hqk
            clear hnew hMj hkj hkk hget
            go_wp2
            go_roundw
            case rel => exact ⟨j + 1, rfl, by omega, hMk, hkw⟩
            case measure => simp [intOf]; omega
        · have hjx : j = x8 := by omega
          subst hjx
          have hfin : (a.ins.take j).foldl (outA a.m) acc = outsA acc a := by rw [hx8.out, foldl_all]; rfl
          rw [hfin, ← hst.out] at hMi
          have hkf := hkrA.out.trans hki.out
          have hlf : ((Y.take (k + 1)).foldl outsA []).length ≤ (k + 1) * 100000 := by
            rw [hst.out]
            have h1 := out_fold_len a.m a.ins acc
            have h2 := hln.out
            have h4 := hao.out.len
            unfold outsA
            rw [Nat.add_mul]
            omega
          replace hkf := Lib.hid hkf
          replace hlf := Lib.hid hlf
          clear hfin
          go_wp2
          go_roundw
          case rel => exact ⟨k + 1, rfl, by omega, hMi, hkf, hlf⟩
          case measure => simp [intOf]; omega
    --DEV2
    · have hkN : N = k := by omega
      subst hkN
      have hO0 : (Y.take N).foldl outsA [] = outsOf Y := by rw [← hNY.out, foldl_all]; rfl
      rw [hO0] at hMr
      obtain ⟨O, hOe⟩ : ∃ O, outsOf Y = O := ⟨_, rfl⟩
      rw [hOe] at hMr
      have hir := map_ki hkr.out hbE.out
      have hX3 := hX.out.keepS hkr.out (fun b hb e => by
        simp at hb; subst hb
        obtain ⟨cs, hc⟩ := hX.out.tag _ e
        rw [hbE.out] at hc; cases hc)
      have hLA3 := hLA.out.ki hir
      have hk03 : Keeps [] w wr := hk2.out.fresh hkr.out (fun b hb => by simp at hb; subst hb; exact .inr hk1s)
      have hT3 := h.out.keeps hk03
      have hbE3 := MapS.M.lt ktE hMr.out
      have hlt3 := hT3.lt
      have hwW := hk03.size
      replace hX := Lib.hid hX3
      replace hLA := Lib.hid hLA3
      replace hk03 := Lib.hid hk03
      replace hT3 := Lib.hid hT3
      replace hOe := Lib.hid hOe
      clear hX3 hLA3 hir hO0 hln hM hkr hk2 hbE hz2 hk1s h
      go_wp2
      generalize wr = W3 at *
      go_loopw [67, 11] (fun i cv wr => ∃ k : Nat, i = .int .i64 k ∧ k ≤ N ∧ ∃ V, Hid (CL wr W3.heap.size cv (rawOf t O (Y.take k)) V) ∧ Hid (Keeps [] W3 wr)) (fun i _ _ => N - (intOf i).toNat)
      case atStart => exact ⟨0, rfl, by omega, _, Lib.hid (CL.nil _ _ (fun _ _ => nilT)), Lib.hid (Keeps.refl _ _)⟩
      case round =>
        obtain ⟨k, rfl, hk, V, hC, hkr⟩ := hrel
        by_cases hlt2 : k < N
        --DEV1
        · have hXr := hX.out.keeps hkr.out
          have hLAr := hLA.out.ki hkr.out.ki0
          have hkX : k < X.length := by rw [hN.out]; exact hlt2
          have hkY : k < Y.length := by rw [hNY.out]; exact hlt2
          obtain ⟨g, o, c', hv, he⟩ := hXr.r.elem hkX
          rw [hN.out] at hv
          cases hv
          have hxy := hLAr.2 k X[k] Y[k] (List.getElem?_eq_getElem _) (List.getElem?_eq_getElem _)
          have hao := hYok.out Y[k] (List.getElem_mem _)
          have hst : rawOf t O (Y.take (k + 1)) = rawC t O (rawOf t O (Y.take k)) Y[k] := foldl_succ _ _ _ _ hkY
          obtain ⟨hbd, hPl⟩ := rawOf_take t O Y (fun a ha => (hYok.out a ha).len) k (by omega)
          obtain ⟨a, hae⟩ : ∃ a, Y[k] = a := ⟨_, rfl⟩
          rw [hae] at hxy hao hst
          obtain ⟨x, hxe⟩ : ∃ x, X[k] = x := ⟨_, rfl⟩
          rw [hxe] at hxy he
          obtain ⟨P, hP⟩ : ∃ P, rawOf t O (Y.take k) = P := ⟨_, rfl⟩
          rw [hP] at hC hst hbd hPl
          clear hXr hLAr hkX hae hxe
          obtain ⟨x0, x1, x2, x3, x4, x5, x6, x7, x8, x9⟩ := x
          have f0 := he 0 _ rfl
          have f1 := he 1 _ rfl
          have f2 := he 2 _ rfl
          have f3 := he 3 _ rfl
          have f4 := he 4 _ rfl
          have f5 := he 5 _ rfl
          have f6 := he 6 _ rfl
          have f7 := he 7 _ rfl
          simp only [shA, AnV.v, Nat.add_zero] at f0 f1 f2 f3 f4 f5 f6 f7
          have hx0 : x0 = a.m := hxy.m
          have hx1 : x1 = a.ow := hxy.ow
          have hx2 : x2 = a.n := hxy.n
          have hx3 : x3 = a.ep := hxy.ep
          have hins := hxy.ins
          simp only [AnV.v] at hins
          have hx8 : x8 = a.ins.length := by obtain ⟨_, _, e, _⟩ := hins.r.form; cases e; rfl
          subst hx0 hx1 hx2 hx3
          obtain ⟨ca, cc, rfl⟩ := hC.out.c.form
          obtain ⟨Pl, hPle⟩ : ∃ n, P.length = n := ⟨_, rfl⟩
          rw [rowsC_len, hPle] at hC ⊢
          have hPl2 : Pl ≤ 1000 := by omega
          replace hins := Lib.hid hins
          replace hao := Lib.hid hao
          replace hst := Lib.hid hst
          replace hx8 := Lib.hid hx8
          replace hbd := Lib.hid hbd
          replace hP := Lib.hid hP
          replace hPle := Lib.hid hPle
          clear he hxy hkY hPl
          go_wp2
          have hkA0 : Keeps [] wr (wr.alloc (.cells #[.int .i64 a.m, .int .i64 a.ow, .int .u64 a.n, .int .i64 a.ep, .bool x4, .bool x5, .int .i64 x6, .slice x7 x8 x9] tA)) := (Keeps.refl _ _).alloc _
          have hbA := heap_alloc_new wr (.cells #[.int .i64 a.m, .int .i64 a.ow, .int .u64 a.n, .int .i64 a.ep, .bool x4, .bool x5, .int .i64 x6, .slice x7 x8 x9] tA)
          generalize (wr.alloc (.cells #[.int .i64 a.m, .int .i64 a.ow, .int .u64 a.n, .int .i64 a.ep, .bool x4, .bool x5, .int .i64 x6, .slice x7 x8 x9] tA)) = WA at *
          have hW3r := hkr.out.size
          obtain ⟨XA, hXA⟩ : ∃ b, wr.heap.size = b := ⟨_, rfl⟩
          have hkA := hkr.out.trans hkA0
          have hCA := hC.out.keeps hkA0
          have hinsA := hins.out.ki hkA0.ki0
          rw [hXA] at hbA hW3r ⊢
          have hCB : B ≤ 0 ∨ True := .inr trivial
          clear hXA hCB
          replace hkA := Lib.hid hkA
          replace hCA := Lib.hid hCA
          replace hinsA := Lib.hid hinsA
          replace hbA := Lib.hid hbA
          have hx8l : x8 ≤ 100000 := by rw [hx8.out]; exact hao.out.len
          clear hkr hC hins hkA0 f0 f1 f2 f3 f4 f5 f6 f7
          go_cut [85] from 68 to 184 (fun b wx => b = .bool (newC P a) ∧ wx = WA.drew)
          case first =>
            obtain ⟨y0, y1, y2, y3, y4, y5, y6, y7, yf, ylt⟩ := cells8 hbA.out
            cases Pl with
            | zero =>
              have hnb := newC_nil hPle.out a
              replace hnb := Lib.hid hnb
              refine Free.wp_region_chain (fun i => false) (fun i => true) (fun _ _ => False) (by kernel_rfl) (by kernel_rfl) (by kernel_rfl) ?_
              (repeat (first | (apply Free.cw_pureW rfl rfl; (intro w'; go_simp <;> exact rfl); go_frame) | (apply Free.cw_steadyW rfl rfl rfl; (intro w' hS; have q0 := Free.sx_cell hS y0 (fun _ _ hT => hT); go_simp <;> exact rfl); go_frame) | (refine Free.cw_skip rfl ?_; go_frame)))
              refine Free.cw_nil ?_
              go_wp2
              go_meet
              case rel => exact ⟨by rw [hnb.out], rfl⟩
            | succ n =>
              have hnb := newC_at hPle.out a
              have hwn : IntKind.i64.wrap (n : Int) = (n : Int) := IntWalk.i64_in _ (by omega)
              have hnn : (n : Int) < (n : Int) + 1 := by omega
              obtain ⟨gc, cc', ev, hgB, hgl, m0, m1, m2, m3, m4, mf⟩ := hCA.out.row (k := n) (by rw [hPle.out]; omega)
              rw [hPle.out] at ev
              cases ev
              replace hnb := Lib.hid hnb
              refine Free.wp_region_chain (fun i => false) (fun i => true) (fun _ _ => False) (by kernel_rfl) (by kernel_rfl) (by kernel_rfl) ?_
              (repeat (first | (apply Free.cw_pureW rfl rfl; (intro w'; go_simp <;> exact rfl); go_frame) | (apply Free.cw_steadyW rfl rfl rfl; (intro w' hS; have q0 := Free.sx_cell hS y0 (fun _ _ hT => hT); have q1 := Free.sx_cell hS m0 (fun _ _ hT => hT); go_simp <;> exact rfl); go_frame) | (refine Free.cw_skip rfl ?_; go_frame)))
              refine Free.cw_nil ?_
              go_wp2
              go_meet
              case rel =>
                have hz : ((n : Int) + 1 == 0) = false := by simp; omega
                exact ⟨by rw [hnb.out, hz, Bool.false_or], rfl⟩
          case rest =>
            obtain ⟨rfl, rfl⟩ := hcut
            have hCD := hCA.out.keeps ((Keeps.refl [] WA).drew)
            have hkD : Keeps [] WA WA.drew := (Keeps.refl [] WA).drew
            have hbD := (hkD.block XA (lt_of_blk hbA.out) (by simp)).trans hbA.out
            have hWl : W3.heap.size ≤ WA.drew.heap.size := (hkA.out.trans hkD).size
            generalize WA.drew = WD at *
            replace hCD := Lib.hid hCD
            replace hkD := Lib.hid hkD
            replace hbD := Lib.hid hbD
            clear hCA
            go_upto_if 85 with fail
            go_cut [11] from 68 to 184 (fun cv wx => ∃ V1, Hid (CL wx W3.heap.size cv (openC P a) V1) ∧ Hid (Keeps [] W3 wx) ∧ Hid (KO WD wx))
            case first =>
              obtain ⟨nb, hnb⟩ : ∃ b, newC P a = b := ⟨_, rfl⟩
              rw [hnb]
              obtain ⟨y0, y1, y2, y3, y4, y5, y6, y7, yf, ylt⟩ := cells8 hbD.out
              cases nb with
              | true =>
                have hopen := openC_new hnb
                have hk1 := (Keeps.refl [] WD).alloc (.cells #[.int .i64 a.m, .int .i64 a.ep, .slice none 0 0, .slice none 0 0, .slice none 0 0] tC)
                have hmade := Sh.O.one shC WD (⟨a.m, a.ep, nilT, nilT, nilT⟩ : ClV) #[.int .i64 a.m, .int .i64 a.ep, .slice none 0 0, .slice none 0 0, .slice none 0 0] tC 0 rfl (by omega)
                have hC1 := hCD.out.keeps hk1
                replace hopen := Lib.hid hopen
                replace hk1 := Lib.hid hk1
                replace hmade := Lib.hid hmade
                replace hC1 := Lib.hid hC1
                replace hnb := Lib.hid hnb
                go_wp2_with (at_builtin; go_loud (refine Sh.wpl_app shC W3.heap.size infoC rfl Tryz.underlying30 (.slice ca Pl cc) (.slice (some ⟨WD.heap.size, 0, none⟩) 1 1) (rowsC P V) [(⟨a.m, a.ep, nilT, nilT, nilT⟩ : ClV)] rfl _ _ rfl rfl rfl hC1.out.c hmade.out.r (by rw [rowsC_len, hPle.out]; simp; omega) (by simp; omega) ?_; intro v5 w5 hO5 hG5; have hC5 := hC1.out.push a.m a.ep hG5 hO5; have hk5 := Grw.keeps ((hkA.out.trans hkD.out).trans hk1.out) hG5 (fun b hb => hC1.out.c.ge b hb); have hko := (KO.nil hk1.out).trans (KO.grwC hG5 hC1.out.c); rw [← hopen.out] at hC5; replace hC5 := Lib.hid hC5; replace hk5 := Lib.hid hk5; replace hko := Lib.hid hko; clear hG5 hO5))
                go_wp2
                go_meet
                case rel => exact ⟨_, hC5, hk5, hko⟩
              | false =>
                have hopen := openC_old hnb
                go_wp2
                go_meet
                case rel => exact ⟨V, by rw [hopen]; exact hCD, Lib.hid (hkA.out.trans hkD.out), Lib.hid (KO.nil (Keeps.refl _ _))⟩
            case rest =>
              obtain ⟨V1, hC1, hk1, hko1⟩ := hcut
              obtain ⟨n, hn1, hnP⟩ := openC_pos P a
              have hPl3 : n ≤ 1000 := by rw [hPle.out] at hnP; omega
              obtain ⟨gc, cc1, ev, hgB, hgl, m0, m1, m2, m3, m4, mf⟩ := hC1.out.row (k := n) (by omega)
              rw [hn1] at ev
              subst ev
              have hbC := (hko1.out.2 XA _ _ _ hbD.out (by decide) (by decide)).trans hbD.out
              have hinsC := hinsA.out.ki (hkD.out.ki0.trans hko1.out.ki)
              have hMC := hMr.out.keeps ktE hk1.out
              obtain ⟨y0, y1, y2, y3, y4, y5, y6, y7, yf, ylt⟩ := cells8 hbC
              have hqk : qOk (a.ow, a.m, a.n) := ⟨hao.out.q.2.1, hao.out.q.1, hao.out.q.2.2⟩
              have hlk := MapS.M.look_ok ktE Tryz.underlying133 (zV 0) zeroZ hMC hqk
              have hXg : XA ≠ gc := fun e => by
                subst e
                obtain ⟨cs, hc⟩ := hC1.out.c.tag XA (by simp [Value.ownBlock])
                exact tag_ne hbC hc (by decide) rfl
              have hwn : IntKind.i64.wrap (n : Int) = (n : Int) := IntWalk.i64_in _ (by omega)
              obtain ⟨go, hgo⟩ : ∃ go, MapS.get (a.ow, a.m, a.n) O = go := ⟨_, rfl⟩
              rw [hgo] at hlk
              obtain ⟨ov, hov⟩ : ∃ ov : Int, (go.map zV).getD (zV 0) = zV ov ∧ (∀ u, go = some u → u = ov) := by
                cases go with
                | none => exact ⟨_, rfl, fun u h => by cases h⟩
                | some u => exact ⟨u, rfl, fun v h => by cases h; rfl⟩
              obtain ⟨ob, hob⟩ : ∃ ob, go.isSome = ob := ⟨_, rfl⟩
              rw [hov.1, hob] at hlk
              simp only [ktE, qV, zV] at hlk
              have hW3c := hk1.out.size
              replace hov := Lib.hid hov
              replace hgo := Lib.hid hgo
              replace hob := Lib.hid hob
              replace hqk := Lib.hid hqk
              replace hbC := Lib.hid hbC
              replace hinsC := Lib.hid hinsC
              replace hn1 := Lib.hid hn1
              clear hMC hbA hinsA hCD hbD hkD hWl hkA hko1
              go_upto_if 111 with fail
              replace hn1 := hn1.out
              go_cut [] from 68 to 184 (fun wx => ∃ V2, Hid (CL wx W3.heap.size (.slice (some ⟨gc, 0, none⟩) (n + 1) cc1) (needC O (openC P a) a) V2) ∧ Hid (Keeps [] W3 wx) ∧ Hid (KO wc wx))
              case first =>
                cases ob with
                | true =>
                  have hget : MapS.get (a.ow, a.m, a.n) O = some ov := by
                    obtain ⟨u, hu⟩ := Option.isSome_iff_exists.1 hob.out
                    rw [hgo.out, hu, hov.out.2 u hu]
                  obtain ⟨⟨sa, sn, sc⟩, hv0⟩ : ∃ x, V1 n 0 = x := ⟨_, rfl⟩
                  have hOn := hC1.out.o n 0 (by omega) (by omega)
                  have hng := fun b (e : (slv (V1 n 0)).ownBlock = some b) => hC1.out.ne (by omega) (by omega) e
                  have hll := (hbd.out.openC a) n (by omega) 0 (by omega)
                  rw [hv0] at hOn hng m2
                  simp only [slv] at hOn hng m2
                  have hne1 : ∀ b, (Value.slice sa sn sc).ownBlock = some b → b ≠ gc := fun b e e2 => hng b e (by simp [Value.ownBlock, e2])
                  have hne2 : ∀ b, (Value.slice sa sn sc).ownBlock = some b → b ≠ XA := fun b e e2 => by
                    subst e2
                    obtain ⟨cs, hc⟩ := hOn.tag _ e
                    exact tag_ne hc hbC.out (by decide) rfl
                  have hneed : (openC P a).set n ((openC P a)[n].upd 0 ((openC P a)[n].at 0 ++ [(a.ow, a.n, ov)])) = needC O (openC P a) a := by
                    unfold needC
                    rw [hget]
                    exact (updL_at hn1 0 (fun l => l ++ [(a.ow, a.n, ov)])).symm
                  replace hne1 := Lib.hid hne1
                  replace hne2 := Lib.hid hne2
                  replace hOn := Lib.hid hOn
                  replace hll := Lib.hid hll
                  replace hneed := Lib.hid hneed
                  clear hng
                  go_wp2
                  refine Free.wp_region_chain (fun i => i == 11 || i == 12 || i == 15) (fun i => true) (fun j b => (j = 12 ∧ (Value.slice sa sn sc).ownBlock = some b) ∨ (j = 15 ∧ b = gc)) (by kernel_rfl) (by kernel_rfl) (by kernel_rfl) ?_
                  (repeat (first | (apply Free.cw_pure rfl rfl; (intro w'; go_simp <;> exact rfl); go_frame) | (apply Free.cw_steady rfl rfl rfl; (intro w' hS; have q0 := Free.sx_cell hS m2 (fun j hp hT => Or.elim hT (fun h => hne1.out _ h.2 rfl) (fun h => by obtain ⟨rfl, _⟩ := h; exact absurd hp (by decide +kernel))); have q1 := Free.sx_cell hS y1 (fun j hp hT => Or.elim hT (fun h => hne2.out _ h.2 rfl) (fun h => hXg h.2)); have q2 := Free.sx_cell hS y2 (fun j hp hT => Or.elim hT (fun h => hne2.out _ h.2 rfl) (fun h => hXg h.2)); go_simp <;> exact rfl); go_frame) | (refine Free.cw_skip rfl ?_; go_frame)))
                  refine Free.cw_loud rfl rfl (fun K hK => ?_)
                  go_wp2
                  refine hK _ _ rfl (Free.KeepsP.alloc _ _ _) ?_
                  clear hK K
                  (repeat (apply Free.cw_pure rfl rfl; (intro w'; go_simp <;> exact rfl); go_frame))
                  refine Free.cw_loud rfl rfl (fun K hK => ?_)
                  have hkE : Keeps [] wc ((wc.alloc (.cells #[.int .i64 a.ow, .int .u64 a.n, .int .i64 ov] tN)).drew) := ((Keeps.refl _ _).alloc _).drew
                  have hmade := (Sh.O.one shT wc (a.ow, a.n, ov) #[.int .i64 a.ow, .int .u64 a.n, .int .i64 ov] tN 0 rfl (by omega)).keeps ((Keeps.refl [] _).drew)
                  have hOE := hOn.out.keeps hkE
                  have hCE := hC1.out.keeps hkE
                  have hlE := hkE.size
                  refine Sh.wp_app shT W3.heap.size infoN rfl Tryz.underlying42 (.slice sa sn sc) (.slice (some ⟨wc.heap.size, 0, none⟩) 1 1) ((openC P a)[n].at 0) [(a.ow, a.n, ov)] _ _ rfl rfl rfl hOE hmade.r (by have := hll.out; simp only [List.length_cons, List.length_nil]; omega) (Nat.le_trans hk1.out.size hlE) ?_
                  intro v5 w5 hO5 hG5
                  obtain ⟨a5, c5, rfl⟩ := hO5.form
                  obtain ⟨N5, hN5⟩ : ∃ q, ((openC P a)[n].at 0 ++ [(a.ow, a.n, ov)]).length = q := ⟨_, rfl⟩
                  rw [hN5] at hO5 hG5 ⊢
                  refine hK _ _ rfl (Free.KeepsP.of hG5.keepsO (fun b hb => .inl ⟨rfl, by simpa using hb⟩)) ?_
                  clear hK K
                  have hC6 := hCE.app (k := n) (j := 0) (by omega) (by omega) (v' := (a5, N5, c5)) (by rw [hv0]; exact hG5) hO5
                  rw [hneed.out] at hC6
                  have hng5 : gc ∉ (Value.slice sa sn sc).ownBlock.toList := fun hm => hne1.out gc (by simpa using hm) rfl
                  have hgl5 : gc < ((wc.alloc (.cells #[.int .i64 a.ow, .int .u64 a.n, .int .i64 ov] tN)).drew).heap.size := Nat.lt_of_lt_of_le hgl hlE
                  have m5 := (hG5.keepsO.cell gc (n * 5 + 2) hgl5 hng5).trans (hkE.val m2)
                  have f5 := (hG5.keepsO.frozen gc (n * 5 + 2) hgl5 hng5).trans ((hkE.frozen gc (n * 5 + 2) hgl (by simp)).trans (mf _))
                  have hkS : Keeps [gc] w5 (w5.setCell ⟨gc, n * 5 + (2 + 0), none⟩ (.slice a5 N5 c5)) := (Keeps.refl _ _).setCell (.inr (by simp)) _
                  have hk6 : Keeps [] W3 (w5.setCell ⟨gc, n * 5 + (2 + 0), none⟩ (.slice a5 N5 c5)) := (Grw.keeps (hk1.out.trans hkE) hG5 (fun b hb => hOE.ge b hb)).fresh hkS (fun b hb => by simp at hb; subst hb; exact .inr hgB)
                  have hko6 : KO wc (w5.setCell ⟨gc, n * 5 + (2 + 0), none⟩ (.slice a5 N5 c5)) := ((KO.nil hkE).trans (KO.grwN hG5 hOE)).trans (KO.of hkS (fun b hb => by
                    simp at hb; subst hb
                    obtain ⟨cs, hc⟩ := hCE.c.tag b (by simp [Value.ownBlock])
                    exact ⟨cs, _, _, (hG5.keepsO.block b hgl5 hng5).trans hc, .inl rfl⟩))
                  have hgl6 := lt_of_cell m5
                  replace hC6 := Lib.hid hC6
                  replace hk6 := Lib.hid hk6
                  replace hko6 := Lib.hid hko6
                  replace hkS := Lib.hid hkS
                  clear hO5 hG5 hmade hOE hCE hkE hlE hng5 hgl5
                  (repeat (apply Free.cw_pure rfl rfl; (intro w'; go_simp <;> exact rfl); go_frame))
                  refine Free.cw_loud rfl rfl (fun K hK => ?_)
                  go_wp2
                  refine hK _ _ rfl (Free.KeepsP.of hkS.out (fun b hb => .inr ⟨trivial, by simpa using hb⟩)) ?_
                  clear hK K
                  refine Free.cw_nil ?_
                  go_wp2
                  go_meet
                  case rel => exact ⟨_, hC6, hk6, hko6⟩
                | false =>
                  have hget : MapS.get (a.ow, a.m, a.n) O = none := by
                    rw [hgo.out]; simpa using hob.out
                  obtain ⟨⟨sa, sn, sc⟩, hv0⟩ : ∃ x, V1 n 2 = x := ⟨_, rfl⟩
                  have hOn := hC1.out.o n 2 (by omega) (by omega)
                  have hng := fun b (e : (slv (V1 n 2)).ownBlock = some b) => hC1.out.ne (by omega) (by omega) e
                  have hll := (hbd.out.openC a) n (by omega) 2 (by omega)
                  rw [hv0] at hOn hng m4
                  simp only [slv] at hOn hng m4
                  have hne1 : ∀ b, (Value.slice sa sn sc).ownBlock = some b → b ≠ gc := fun b e e2 => hng b e (by simp [Value.ownBlock, e2])
                  have hne2 : ∀ b, (Value.slice sa sn sc).ownBlock = some b → b ≠ XA := fun b e e2 => by
                    subst e2
                    obtain ⟨cs, hc⟩ := hOn.tag _ e
                    exact tag_ne hc hbC.out (by decide) rfl
                  have hneed : (openC P a).set n ((openC P a)[n].upd 2 ((openC P a)[n].at 2 ++ [(a.ow, a.n, 0)])) = needC O (openC P a) a := by
                    unfold needC
                    rw [hget]
                    exact (updL_at hn1 2 (fun l => l ++ [(a.ow, a.n, 0)])).symm
                  replace hne1 := Lib.hid hne1
                  replace hne2 := Lib.hid hne2
                  replace hOn := Lib.hid hOn
                  replace hll := Lib.hid hll
                  replace hneed := Lib.hid hneed
                  clear hng
                  go_wp2
                  refine Free.wp_region_chain (fun i => i == 10 || i == 11 || i == 14) (fun i => true) (fun j b => (j = 11 ∧ (Value.slice sa sn sc).ownBlock = some b) ∨ (j = 14 ∧ b = gc)) (by kernel_rfl) (by kernel_rfl) (by kernel_rfl) ?_
                  (repeat (first | (apply Free.cw_pure rfl rfl; (intro w'; go_simp <;> exact rfl); go_frame) | (apply Free.cw_steady rfl rfl rfl; (intro w' hS; have q0 := Free.sx_cell hS m4 (fun j hp hT => Or.elim hT (fun h => hne1.out _ h.2 rfl) (fun h => by obtain ⟨rfl, _⟩ := h; exact absurd hp (by decide +kernel))); have q1 := Free.sx_cell hS y1 (fun j hp hT => Or.elim hT (fun h => hne2.out _ h.2 rfl) (fun h => hXg h.2)); have q2 := Free.sx_cell hS y2 (fun j hp hT => Or.elim hT (fun h => hne2.out _ h.2 rfl) (fun h => hXg h.2)); go_simp <;> exact rfl); go_frame) | (refine Free.cw_skip rfl ?_; go_frame)))
                  refine Free.cw_loud rfl rfl (fun K hK => ?_)
                  go_wp2
                  refine hK _ _ rfl (Free.KeepsP.alloc _ _ _) ?_
                  clear hK K
                  (repeat (apply Free.cw_pure rfl rfl; (intro w'; go_simp <;> exact rfl); go_frame))
                  refine Free.cw_loud rfl rfl (fun K hK => ?_)
                  have hkE : Keeps [] wc ((wc.alloc (.cells #[.int .i64 a.ow, .int .u64 a.n, .int .i64 0] tN)).drew) := ((Keeps.refl _ _).alloc _).drew
                  have hmade := (Sh.O.one shT wc (a.ow, a.n, 0) #[.int .i64 a.ow, .int .u64 a.n, .int .i64 0] tN 0 rfl (by omega)).keeps ((Keeps.refl [] _).drew)
                  have hOE := hOn.out.keeps hkE
                  have hCE := hC1.out.keeps hkE
                  have hlE := hkE.size
                  refine Sh.wp_app shT W3.heap.size infoN rfl Tryz.underlying42 (.slice sa sn sc) (.slice (some ⟨wc.heap.size, 0, none⟩) 1 1) ((openC P a)[n].at 2) [(a.ow, a.n, 0)] _ _ rfl rfl rfl hOE hmade.r (by have := hll.out; simp only [List.length_cons, List.length_nil]; omega) (Nat.le_trans hk1.out.size hlE) ?_
                  intro v5 w5 hO5 hG5
                  obtain ⟨a5, c5, rfl⟩ := hO5.form
                  obtain ⟨N5, hN5⟩ : ∃ q, ((openC P a)[n].at 2 ++ [(a.ow, a.n, 0)]).length = q := ⟨_, rfl⟩
                  rw [hN5] at hO5 hG5 ⊢
                  refine hK _ _ rfl (Free.KeepsP.of hG5.keepsO (fun b hb => .inl ⟨rfl, by simpa using hb⟩)) ?_
                  clear hK K
                  have hC6 := hCE.app (k := n) (j := 2) (by omega) (by omega) (v' := (a5, N5, c5)) (by rw [hv0]; exact hG5) hO5
                  rw [hneed.out] at hC6
                  have hng5 : gc ∉ (Value.slice sa sn sc).ownBlock.toList := fun hm => hne1.out gc (by simpa using hm) rfl
                  have hgl5 : gc < ((wc.alloc (.cells #[.int .i64 a.ow, .int .u64 a.n, .int .i64 0] tN)).drew).heap.size := Nat.lt_of_lt_of_le hgl hlE
                  have m5 := (hG5.keepsO.cell gc (n * 5 + 4) hgl5 hng5).trans (hkE.val m4)
                  have f5 := (hG5.keepsO.frozen gc (n * 5 + 4) hgl5 hng5).trans ((hkE.frozen gc (n * 5 + 4) hgl (by simp)).trans (mf _))
                  have hkS : Keeps [gc] w5 (w5.setCell ⟨gc, n * 5 + (2 + 2), none⟩ (.slice a5 N5 c5)) := (Keeps.refl _ _).setCell (.inr (by simp)) _
                  have hk6 : Keeps [] W3 (w5.setCell ⟨gc, n * 5 + (2 + 2), none⟩ (.slice a5 N5 c5)) := (Grw.keeps (hk1.out.trans hkE) hG5 (fun b hb => hOE.ge b hb)).fresh hkS (fun b hb => by simp at hb; subst hb; exact .inr hgB)
                  have hko6 : KO wc (w5.setCell ⟨gc, n * 5 + (2 + 2), none⟩ (.slice a5 N5 c5)) := ((KO.nil hkE).trans (KO.grwN hG5 hOE)).trans (KO.of hkS (fun b hb => by
                    simp at hb; subst hb
                    obtain ⟨cs, hc⟩ := hCE.c.tag b (by simp [Value.ownBlock])
                    exact ⟨cs, _, _, (hG5.keepsO.block b hgl5 hng5).trans hc, .inl rfl⟩))
                  have hgl6 := lt_of_cell m5
                  replace hC6 := Lib.hid hC6
                  replace hk6 := Lib.hid hk6
                  replace hko6 := Lib.hid hko6
                  replace hkS := Lib.hid hkS
                  clear hO5 hG5 hmade hOE hCE hkE hlE hng5 hgl5
                  (repeat (apply Free.cw_pure rfl rfl; (intro w'; go_simp <;> exact rfl); go_frame))
                  refine Free.cw_loud rfl rfl (fun K hK => ?_)
                  go_wp2
                  refine hK _ _ rfl (Free.KeepsP.of hkS.out (fun b hb => .inr ⟨trivial, by simpa using hb⟩)) ?_
                  clear hK K
                  refine Free.cw_nil ?_
                  go_wp2
                  go_meet
                  case rel => exact ⟨_, hC6, hk6, hko6⟩
              case rest =>
                obtain ⟨V2, hC2, hk2c, hko2⟩ := hcut
                have hbC2 := (hko2.out.2 XA _ _ _ hbC.out (by decide) (by decide)).trans hbC.out
                have hinsC2 := hinsC.out.ki hko2.out.ki
                obtain ⟨P2, hP2⟩ : ∃ P2, needC O (openC P a) a = P2 := ⟨_, rfl⟩
                have hbd2 : LenLe P2 (k * 100001 + 1) := by rw [← hP2]; exact (hbd.out.openC a).needC O a
                have hn2 : P2.length = n + 1 := by rw [← hP2, needC_len]; exact hn1
                have hst2 : rawOf t O (Y.take (k + 1)) = a.ins.foldl (scC t a.m) P2 := by rw [hst.out, ← hP2]; rfl
                rw [hP2] at hC2
                obtain ⟨y0, y1, y2, y3, y4, y5, y6, y7, yf, ylt⟩ := cells8 hbC2
                obtain ⟨R, hR, hRL⟩ := hT3.out.mp
                have c7 := hT3.out.cells.2.2.2.2.2.2.2.1
                replace hbC2 := Lib.hid hbC2
                replace hinsC2 := Lib.hid hinsC2
                replace hbd2 := Lib.hid hbd2
                replace hn2 := Lib.hid hn2
                replace hst2 := Lib.hid hst2
                replace hR := Lib.hid hR
                replace hRL := Lib.hid hRL
                replace c7 := Lib.hid c7
                clear hbC hinsC hko2 hP2 hC1 m0 m1 m2 m3 m4 mf hlk hXg hk1 hn1 hW3c hst hgl
                go_wp2
                have hW3c := hk2c.out.size
                go_loopw [144] (fun i wl => ∃ j : Nat, i = .int .i64 j ∧ j ≤ x8 ∧ ∃ V3, Hid (CL wl W3.heap.size (.slice (some ⟨gc, 0, none⟩) (n + 1) cc1) ((a.ins.take j).foldl (scC t a.m) P2) V3) ∧ Hid (Keeps [] W3 wl) ∧ Hid (KO wc wl)) (fun i _ => x8 - (intOf i).toNat)
                case atStart => exact ⟨0, rfl, by omega, V2, hC2, hk2c, Lib.hid (KO.nil (Keeps.refl _ _))⟩
                case round =>
                  obtain ⟨j, rfl, hj, V3, hC3, hk3, hko3⟩ := hrel
                  by_cases hlt3 : j < x8
                  · have hja : j < a.ins.length := by rw [← hx8.out]; exact hlt3
                    obtain ⟨g2, o2, c2, hv2, he2⟩ := (hinsC2.out.ki hko3.out.ki).r.elem hja
                    rw [← hx8.out] at hv2
                    cases hv2
                    have hxo := hao.out.ins _ (List.getElem_mem hja)
                    have hst3 : (a.ins.take (j + 1)).foldl (scC t a.m) P2 = scC t a.m ((a.ins.take j).foldl (scC t a.m) P2) a.ins[j] := foldl_succ _ _ _ _ hja
                    have hbd3 : LenLe ((a.ins.take j).foldl (scC t a.m) P2) (k * 100001 + 1 + (a.ins.take j).length) := LenLe.scs t a.m hbd2.out
                    have hn3 : ((a.ins.take j).foldl (scC t a.m) P2).length = n + 1 := by rw [sc_fold_len]; exact hn2.out
                    have htl : (a.ins.take j).length = j := by rw [List.length_take]; omega
                    rw [htl] at hbd3
                    obtain ⟨Q, hQ⟩ : ∃ Q, (a.ins.take j).foldl (scC t a.m) P2 = Q := ⟨_, rfl⟩
                    rw [hQ] at hC3 hst3 hbd3 hn3
                    obtain ⟨y, hye⟩ : ∃ y, a.ins[j] = y := ⟨_, rfl⟩
                    rw [hye] at he2 hxo hst3
                    obtain ⟨e0, e1, e2⟩ := y
                    have f0 := he2 0 _ rfl
                    have f1 := he2 1 _ rfl
                    have f2 := he2 2 _ rfl
                    simp only [shT, Nat.add_zero] at f0 f1 f2
                    have hbi := (hko3.out.2 XA _ _ _ hbC2.out (by decide) (by decide)).trans hbC2.out
                    have hqk : qOk (e0, a.m, e1) := ⟨hxo.1, hao.out.q.1, hxo.2.1⟩
                    replace hst3 := Lib.hid hst3
                    replace hbd3 := Lib.hid hbd3
                    replace hn3 := Lib.hid hn3
                    replace hbi := Lib.hid hbi
                    replace hqk := Lib.hid hqk
                    replace hja := Lib.hid hja
                    clear he2 hye hQ htl
                    go_wp2
                    have hkF : Keeps [] wr (wr.alloc (.cells #[.int .i64 e0, .int .u64 e1, .int .i64 e2] tI)) := (Keeps.refl _ _).alloc _
                    have hbF := heap_alloc_new wr (.cells #[.int .i64 e0, .int .u64 e1, .int .i64 e2] tI)
                    have hzF : (wr.alloc (.cells #[.int .i64 e0, .int .u64 e1, .int .i64 e2] tI)).heap.size = wr.heap.size + 1 := by simp
                    generalize (wr.alloc (.cells #[.int .i64 e0, .int .u64 e1, .int .i64 e2] tI)) = WF at *
                    have hCF := hC3.out.keeps hkF
                    have hk3F := hk3.out.trans hkF
                    have hko3F := hko3.out.trans (KO.nil hkF)
                    have hbiF := (hkF.block XA (lt_of_blk hbi.out) (by simp)).trans hbi.out
                    have hXAw : XA < wr.heap.size := lt_of_blk hbi.out
                    have hWw : W3.heap.size ≤ wr.heap.size := hk3.out.size
                    obtain ⟨XF, hXF⟩ : ∃ b, wr.heap.size = b := ⟨_, rfl⟩
                    rw [hXF] at hbF hzF hXAw hWw ⊢
                    obtain ⟨r0, r1, r2⟩ := cells3t hbF
                    obtain ⟨y0, y1, y2, y3, y4, y5, y6, y7, yf, ylt⟩ := cells8 hbiF
                    have d7 := hk3F.val c7.out
                    have hRF := hR.out.keeps ktQ hk3F
                    have hlook := fun (w' : World) (hb : w'.heap[bm]? = WF.heap[bm]?) => MapS.M.look ktQ (k := (e0, a.m, e1)) Tryz.underlying97 (aV .zero) zeroA (hRF.at' hb) hqk.out
                    obtain ⟨xv, hxv, hlu⟩ := hRL.out.lu (e0, a.m, e1)
                    rw [hxv] at hlook
                    obtain ⟨v0, v1, v2, v3, v4, v5, v6, v7, v8, v9⟩ := xv
                    simp only [ktQ, qV, aV, AnV.v] at hlook
                    simp only at hlu
                    have hfl := fun w' => field_lu w' v0 v1 v2 v3 v4 v5 v6 (.slice v7 v8 v9) rfl
                    have hbtF : bt < WF.heap.size := by omega
                    have hbmF : bm < WF.heap.size := by omega
                    replace hCF := Lib.hid hCF
                    replace hk3F := Lib.hid hk3F
                    replace hko3F := Lib.hid hko3F
                    replace hbiF := Lib.hid hbiF
                    replace hlook := Lib.hid hlook
                    replace hlu := Lib.hid hlu
                    replace hbF := Lib.hid hbF
                    replace hxv := Lib.hid hxv
                    have hXFe := Lib.hid hXF
                    clear hC3 hk3 hko3 hkF hbi hRF f0 f1 f2 hXF
                    refine Free.wp_region_chain (fun i => i == 18 || i == 19) (fun i => true) (fun j b => j = 19 ∧ WF.heap.size ≤ b) (by kernel_rfl) (by kernel_rfl) (by kernel_rfl) ?_
                    (repeat (first | (apply Free.cw_pure rfl rfl; (intro w'; go_simp <;> exact rfl); go_frame) | (apply Free.cw_steady rfl rfl rfl; (intro w' hS2; have z0 := Free.sx_cell hS2 d7 (fun _ _ hT => by omega); have z1 := Free.sx_cell hS2 r0 (fun _ _ hT => by omega); have z2 := Free.sx_cell hS2 r1 (fun _ _ hT => by omega); have z3 := Free.sx_cell hS2 y0 (fun _ _ hT => by omega); have z5 := hlook.out w' (hS2.block bm hbmF (fun ⟨_, _, _, hT⟩ => by omega)); go_simp <;> exact rfl); go_frame)))
                    refine Free.cw_loud rfl rfl (fun K hK => ?_)
                    go_wp2
                    refine hK _ _ rfl (Free.KeepsP.alloc _ _ _) ?_
                    clear hK K
                    (repeat (apply Free.cw_pure rfl rfl; (intro w'; go_simp <;> exact rfl); go_frame))
                    refine Free.cw_loud rfl rfl (fun K hK => ?_)
                    go_wp2
                    refine hK _ _ rfl (keepsP_remade (S := fun b => True ∧ WF.heap.size ≤ b) WF _ _ ⟨trivial, Nat.le_refl _⟩).drews ?_
                    clear hK K
                    (repeat (apply Free.cw_pure rfl rfl; (intro w'; go_simp <;> exact rfl); go_frame))
                    refine Free.cw_nil ?_
                    have hsc : scC t a.m Q (e0, e1, e2) = Q.set n ((Q[n]'(by have := hn3.out; omega)).upd 1 (addN (e0, e1, v6) ((Q[n]'(by have := hn3.out; omega)).at 1))) := by
                      unfold scC
                      rw [updL_at hn3.out, ← hlu.out]
                    rw [hsc] at hst3
                    have hkN : Keeps [] WF ((WF.alloc (.cells #[.int .i64 e0, .int .u64 e1, .int .i64 v6] tN)).drew) := ((Keeps.refl _ _).alloc _).drew
                    have hbN : ((WF.alloc (.cells #[.int .i64 e0, .int .u64 e1, .int .i64 v6] tN)).drew).heap[XF + 1]? = some (.cells #[.int .i64 e0, .int .u64 e1, .int .i64 v6] tN (0, 0)) := by
                      have := heap_alloc_new WF (.cells #[.int .i64 e0, .int .u64 e1, .int .i64 v6] tN)
                      rw [hzF] at this
                      exact this
                    generalize ((WF.alloc (.cells #[.int .i64 e0, .int .u64 e1, .int .i64 v6] tN)).drew) = WN at *
                    have hCN := hCF.out.keeps hkN
                    have hk3N := hk3F.out.trans hkN
                    have hko3N := hko3F.out.trans (KO.nil hkN)
                    have hbiN := (hkN.block XA (lt_of_blk hbiF.out) (by simp)).trans hbiF.out
                    have hlow : ∀ b, (Value.slice (some ⟨gc, 0, none⟩) (n + 1) cc1).ownBlock = some b → b < WF.heap.size := fun b hb => hCF.out.c.lt b hb
                    have hgF : gc < WF.heap.size := hlow gc (by simp [Value.ownBlock])
                    have hn4 := hn3.out
                    obtain ⟨⟨sa, sn, sc⟩, hv0⟩ : ∃ x, V3 n 1 = x := ⟨_, rfl⟩
                    have hOn := hCN.o n 1 (by omega) (by omega)
                    have hOlt : ∀ b, (slv (V3 n 1)).ownBlock = some b → b < WF.heap.size := fun b hb => (hCF.out.o n 1 (by omega) (by omega)).lt b hb
                    have hng := fun b (e : (slv (V3 n 1)).ownBlock = some b) => hCN.ne (by omega) (by omega) e
                    have hll := hbd3.out n (by omega) 1 (by omega)
                    obtain ⟨gc', cc', ev, hgB', hgl', _, _, _, m3, _, mf⟩ := hCN.row (k := n) (by omega)
                    rw [hn4] at ev
                    cases ev
                    rw [hv0] at hOn hng m3 hOlt
                    simp only [slv] at hOn hng m3 hOlt
                    have hne1 : ∀ b, (Value.slice sa sn sc).ownBlock = some b → b ≠ gc := fun b e e2 => hng b e (by simp [Value.ownBlock, e2])
                    have hne2 : ∀ b, (Value.slice sa sn sc).ownBlock = some b → b ≠ XF + 1 := fun b e e2 => by have := hOlt b e; omega
                    have hne3 : XF + 1 ≠ gc := by omega
                    obtain ⟨r0, r1, r2⟩ := cells3t hbN
                    have hcon := fun (W : World) (hk : Keeps [] WN W) => containsN_c W _ _ (e0, e1, v6) (hOn.r.keeps hk)
                    obtain ⟨ib, hib⟩ : ∃ ib, decide ((e0, e1, v6) ∈ Q[n].at 1) = ib := ⟨_, rfl⟩
                    rw [hib] at hcon
                    simp only [tV] at hcon
                    replace hib := Lib.hid hib
                    replace hcon := Lib.hid hcon
                    replace hCN := Lib.hid hCN
                    replace hk3N := Lib.hid hk3N
                    replace hko3N := Lib.hid hko3N
                    replace hbiN := Lib.hid hbiN
                    replace hbN := Lib.hid hbN
                    replace hne1 := Lib.hid hne1
                    replace hne2 := Lib.hid hne2
                    replace hOn := Lib.hid hOn
                    replace hll := Lib.hid hll
                    replace hst3 := Lib.hid hst3.out
                    have hn5 := Lib.hid hn4
                    clear hsc hkN hng hOlt hlow hCF hk3F hko3F hbiF hlook hlu hbF hfl d7 y0 y1 y2 y3 y4 y5 y6 y7 yf ylt hxv
                    go_wp2
                    refine Free.wp_region_chain (fun i => i == 5) (fun i => true) (fun _ _ => False) (by kernel_rfl) (by kernel_rfl) (by kernel_rfl) ?_
                    (repeat (first | (apply Free.cw_pure rfl rfl; (intro w'; go_simp <;> exact rfl); go_frame) | (apply Free.cw_steady rfl rfl rfl; (intro w' hS; have q0 := Free.sx_cell hS m3 (fun _ _ hT => hT); have q1 := Free.sx_cell hS r0 (fun _ _ hT => hT); have q2 := Free.sx_cell hS r1 (fun _ _ hT => hT); have q3 := Free.sx_cell hS r2 (fun _ _ hT => hT); go_simp <;> exact rfl); go_frame) | (refine Free.cw_skip rfl ?_; go_frame)))
                    refine Free.cw_loud rfl rfl (fun K hK => ?_)
                    go_wp2_with fail
                    refine (hcon.out _ ((Keeps.refl [] _).drew)).mono ?_
                    rintro e wB ⟨rfl, hkB0⟩
                    refine hK _ _ rfl (Free.KeepsP.of hkB0 (by simp)) ?_
                    clear hK K hcon
                    (repeat (apply Free.cw_pure rfl rfl; (intro w'; go_simp <;> exact rfl); go_frame))
                    refine Free.cw_nil ?_
                    have hkB : Keeps [] WN wB := ((Keeps.refl [] WN).drew).trans hkB0
                    have hCB := hCN.out.keeps hkB
                    have hk3B := hk3N.out.trans hkB
                    have hko3B := hko3N.out.trans (KO.nil hkB)
                    have hbB := (hkB.block _ (lt_of_blk hbN.out) (by simp)).trans hbN.out
                    have hOB := hOn.out.keeps hkB
                    have m3B := hkB.val m3
                    have mfB : ∀ o, wB.frozen? ⟨gc, o, none⟩ = false := fun o => (hkB.frozen gc o hgl' (by simp)).trans (mf o)
                    have hglB : gc < wB.heap.size := Nat.lt_of_lt_of_le hgl' hkB.size
                    obtain ⟨r0, r1, r2⟩ := cells3t hbB
                    have hXB : XF + 1 < wB.heap.size := lt_of_blk hbB
                    replace hCB := Lib.hid hCB
                    replace hk3B := Lib.hid hk3B
                    replace hko3B := Lib.hid hko3B
                    replace hOB := Lib.hid hOB
                    clear hCN hk3N hko3N hbN hbiN hOn m3 mf hgl' hkB0 hkB hbB
                    cases ib with
                    | true =>
                      have hsame : Q.set n (Q[n].upd 1 (addN (e0, e1, v6) (Q[n].at 1))) = Q := by
                        have h1 : addN (e0, e1, v6) (Q[n].at 1) = Q[n].at 1 := if_pos (of_decide_eq_true hib.out)
                        rw [h1, upd_same _ _ (by omega)]
                        exact List.set_getElem_self _
                      have hst4 := hst3.out
                      rw [hsame] at hst4
                      replace hCB := hCB.out
                      rw [← hst4] at hCB
                      replace hCB := Lib.hid hCB
                      clear hsame hst4
                      go_wp2
                      go_roundw
                      case rel => exact ⟨j + 1, rfl, by omega, V3, hCB, hk3B, hko3B⟩
                      case measure => simp [intOf]; omega
                    | false =>
                      have hst4 := hst3.out
                      rw [show addN (e0, e1, v6) (Q[n].at 1) = Q[n].at 1 ++ [(e0, e1, v6)] from if_neg (of_decide_eq_false hib.out)] at hst4
                      replace hst4 := Lib.hid hst4
                      go_wp2
                      refine Free.wp_region_chain (fun i => i == 6 || i == 7 || i == 10) (fun i => true) (fun j b => (j = 7 ∧ (Value.slice sa sn sc).ownBlock = some b) ∨ (j = 10 ∧ b = gc)) (by kernel_rfl) (by kernel_rfl) (by kernel_rfl) ?_
                      (repeat (first | (apply Free.cw_pure rfl rfl; (intro w'; go_simp <;> exact rfl); go_frame) | (apply Free.cw_steady rfl rfl rfl; (intro w' hS; have q0 := Free.sx_cell hS m3B (fun j hp hT => Or.elim hT (fun h => hne1.out _ h.2 rfl) (fun h => by obtain ⟨rfl, _⟩ := h; exact absurd hp (by decide +kernel))); have q1 := Free.sx_cell hS r0 (fun j hp hT => Or.elim hT (fun h => hne2.out _ h.2 rfl) (fun h => hne3 h.2)); have q2 := Free.sx_cell hS r1 (fun j hp hT => Or.elim hT (fun h => hne2.out _ h.2 rfl) (fun h => hne3 h.2)); have q3 := Free.sx_cell hS r2 (fun j hp hT => Or.elim hT (fun h => hne2.out _ h.2 rfl) (fun h => hne3 h.2)); go_simp <;> exact rfl); go_frame) | (refine Free.cw_skip rfl ?_; go_frame)))
                      refine Free.cw_loud rfl rfl (fun K hK => ?_)
                      go_wp2
                      refine hK _ _ rfl (Free.KeepsP.alloc _ _ _) ?_
                      clear hK K
                      (repeat (apply Free.cw_pure rfl rfl; (intro w'; go_simp <;> exact rfl); go_frame))
                      refine Free.cw_loud rfl rfl (fun K hK => ?_)
                      have hkE : Keeps [] wB ((wB.alloc (.cells #[.int .i64 e0, .int .u64 e1, .int .i64 v6] tN)).drew) := ((Keeps.refl _ _).alloc _).drew
                      have hmade := (Sh.O.one shT wB (e0, e1, v6) #[.int .i64 e0, .int .u64 e1, .int .i64 v6] tN 0 rfl (by omega)).keeps ((Keeps.refl [] _).drew)
                      have hOE := hOB.out.keeps hkE
                      have hCE := hCB.out.keeps hkE
                      have hlE := hkE.size
                      refine Sh.wp_app shT W3.heap.size infoN rfl Tryz.underlying42 (.slice sa sn sc) (.slice (some ⟨wB.heap.size, 0, none⟩) 1 1) (Q[n].at 1) [(e0, e1, v6)] _ _ rfl rfl rfl hOE hmade.r (by have := hll.out; simp only [List.length_cons, List.length_nil]; omega) (Nat.le_trans hk3B.out.size hlE) ?_
                      intro v5 w5 hO5 hG5
                      obtain ⟨a5, c5, rfl⟩ := hO5.form
                      obtain ⟨N5, hN5⟩ : ∃ q, (Q[n].at 1 ++ [(e0, e1, v6)]).length = q := ⟨_, rfl⟩
                      rw [hN5] at hO5 hG5 ⊢
                      refine hK _ _ rfl (Free.KeepsP.of hG5.keepsO (fun b hb => .inl ⟨rfl, by simpa using hb⟩)) ?_
                      clear hK K
                      have hC6 := hCE.app (k := n) (j := 1) (by have := hn5.out; omega) (by omega) (v' := (a5, N5, c5)) (by rw [hv0]; exact hG5) hO5
                      rw [← hst4.out] at hC6
                      have hng5 : gc ∉ (Value.slice sa sn sc).ownBlock.toList := fun hm => hne1.out gc (by simpa using hm) rfl
                      have hgl5 : gc < ((wB.alloc (.cells #[.int .i64 e0, .int .u64 e1, .int .i64 v6] tN)).drew).heap.size := Nat.lt_of_lt_of_le hglB hlE
                      have m5 := (hG5.keepsO.cell gc (n * 5 + 3) hgl5 hng5).trans (hkE.val m3B)
                      have f5 := (hG5.keepsO.frozen gc (n * 5 + 3) hgl5 hng5).trans ((hkE.frozen gc (n * 5 + 3) hglB (by simp)).trans (mfB _))
                      have hkS : Keeps [gc] w5 (w5.setCell ⟨gc, n * 5 + (2 + 1), none⟩ (.slice a5 N5 c5)) := (Keeps.refl _ _).setCell (.inr (by simp)) _
                      have hk6 : Keeps [] W3 (w5.setCell ⟨gc, n * 5 + (2 + 1), none⟩ (.slice a5 N5 c5)) := (Grw.keeps (hk3B.out.trans hkE) hG5 (fun b hb => hOE.ge b hb)).fresh hkS (fun b hb => by simp at hb; subst hb; exact .inr hgB)
                      have hko6 : KO wc (w5.setCell ⟨gc, n * 5 + (2 + 1), none⟩ (.slice a5 N5 c5)) := hko3B.out.trans (((KO.nil hkE).trans (KO.grwN hG5 hOE)).trans (KO.of hkS (fun b hb => by
                        simp at hb; subst hb
                        obtain ⟨cs, hc⟩ := hCE.c.tag b (by simp [Value.ownBlock])
                        exact ⟨cs, _, _, (hG5.keepsO.block b hgl5 hng5).trans hc, .inl rfl⟩)))
                      have hgl6 := lt_of_cell m5
                      replace hC6 := Lib.hid hC6
                      replace hk6 := Lib.hid hk6
                      replace hko6 := Lib.hid hko6
                      replace hkS := Lib.hid hkS
                      clear hO5 hG5 hmade hOE hCE hkE hlE hng5 hgl5
                      (repeat (apply Free.cw_pure rfl rfl; (intro w'; go_simp <;> exact rfl); go_frame))
                      refine Free.cw_loud rfl rfl (fun K hK => ?_)
                      go_wp2
                      refine hK _ _ rfl (Free.KeepsP.of hkS.out (fun b hb => .inr ⟨trivial, by simpa using hb⟩)) ?_
                      clear hK K
                      refine Free.cw_nil ?_
                      go_wp2
                      go_roundw
                      case rel => exact ⟨j + 1, rfl, by omega, _, hC6, hk6, hko6⟩
                      case measure => simp [intOf]; omega
                  · have hjx : j = x8 := by omega
                    subst hjx
                    have hfin : (a.ins.take j).foldl (scC t a.m) P2 = rawOf t O (Y.take (k + 1)) := by rw [hst2.out, hx8.out, foldl_all]
                    replace hC3 := hC3.out
                    rw [hfin] at hC3
                    replace hC3 := Lib.hid hC3
                    clear hfin
                    go_wp2
                    go_roundw
                    case rel => exact ⟨k + 1, rfl, by omega, _, hC3, hk3⟩
                    case measure => simp [intOf]; omega
        --DEV2
        · have hkN : N = k := by omega
          subst hkN
          obtain ⟨P, hP⟩ : ∃ P, rawOf t O Y = P := ⟨_, rfl⟩
          have hPt : rawOf t O (Y.take N) = P := by rw [← hNY.out, List.take_length, hP]
          obtain ⟨hbd, hPl⟩ := rawOf_take t O Y (fun a ha => (hYok.out a ha).len) N (by rw [hNY.out]; exact Nat.le_refl _)
          rw [hPt] at hC hbd hPl
          obtain ⟨ca, cc, rfl⟩ := hC.out.c.form
          obtain ⟨NP, hNP⟩ : ∃ n, P.length = n := ⟨_, rfl⟩
          rw [rowsC_len, hNP] at hC ⊢
          have hNP1 : NP ≤ 1000 := by omega
          replace hbd := Lib.hid hbd
          replace hNP := Lib.hid hNP
          replace hP := Lib.hid hP
          clear hPt hPl
          go_wp2
          have hW3s := hkr.out.size
          go_loopw [187] (fun i wl => ∃ k : Nat, i = .int .i64 k ∧ k ≤ NP ∧ ∃ Q, Hid (CL wl W3.heap.size (.slice ca NP cc) Q V) ∧ Hid (Srt k 0 P Q) ∧ Hid (Keeps [] W3 wl)) (fun i _ => NP - (intOf i).toNat)
          case atStart => exact ⟨0, rfl, by omega, P, hC, Lib.hid (Srt.start P), hkr⟩
          case round =>
            obtain ⟨k, rfl, hk, Q, hCQ, hS5, hk5⟩ := hrel
            by_cases hlt5 : k < NP
            · have hQl : Q.length = NP := by rw [hS5.out.1]; exact hNP.out
              have hrow := hCQ.out.row (k := k) (by rw [hQl]; exact hlt5)
              obtain ⟨gc, cc1, ev, hgB, hgl, _, _, m2, m3, m4, _⟩ := hrow
              rw [hQl] at ev
              cases ev
              have hk5s := hk5.out.size
              replace hQl := Lib.hid hQl
              go_wp2
              refine Free.wp_region_chain (fun i => i == 15) (fun i => true) (fun _ _ => False) (by kernel_rfl) (by kernel_rfl) (by kernel_rfl) ?_
              (repeat (first | (apply Free.cw_pure rfl rfl; (intro w'; go_simp <;> exact rfl); go_frame) | (apply Free.cw_steady rfl rfl rfl; (intro w' hS; have q0 := Free.sx_cell hS m2 (fun _ _ hT => hT); have q1 := Free.sx_cell hS m3 (fun _ _ hT => hT); have q2 := Free.sx_cell hS m4 (fun _ _ hT => hT); go_simp <;> exact rfl); go_frame) | (refine Free.cw_skip rfl ?_; go_frame)))
              refine Free.cw_loud rfl rfl (fun K hK => ?_)
              go_wp2
              refine hK _ _ rfl (Free.KeepsP.alloc _ _ _) ?_
              clear hK K
              (repeat (apply Free.cw_pure rfl rfl; (intro w'; go_simp <;> exact rfl); go_frame))
              refine Free.cw_nil ?_
              have hkB : Keeps [] wr ((wr.alloc (.cells #[slv (V k 0), slv (V k 1), slv (V k 2)] 42)).drew) := ((Keeps.refl _ _).alloc _).drew
              have hbB : ((wr.alloc (.cells #[slv (V k 0), slv (V k 1), slv (V k 2)] 42)).drew).heap[wr.heap.size]? = some (.cells #[slv (V k 0), slv (V k 1), slv (V k 2)] 42 (0, 0)) := heap_alloc_new wr _
              generalize ((wr.alloc (.cells #[slv (V k 0), slv (V k 1), slv (V k 2)] 42)).drew) = WB at *
              obtain ⟨XB, hXB⟩ : ∃ b, wr.heap.size = b := ⟨_, rfl⟩
              have hCB := hCQ.out.keeps hkB
              have hk5B := hk5.out.trans hkB
              have hSj : Srt k 0 P Q := hS5.out
              rw [hXB] at hbB ⊢
              replace hbB := Lib.hid hbB
              replace hCB := Lib.hid hCB
              replace hk5B := Lib.hid hk5B
              replace hSj := Lib.hid hSj
              clear hXB hkB hCQ hk5 hS5 m2 m3 m4 hgl hk5s
              go_wp2
              go_loopw [207] (fun i wl => ∃ j : Nat, i = .int .i64 j ∧ j ≤ 3 ∧ ∃ Q, Hid (CL wl W3.heap.size (.slice (some ⟨gc, 0, none⟩) NP cc) Q V) ∧ Hid (Srt k j P Q) ∧ Hid (Keeps [] W3 wl) ∧ Hid (KO WB wl)) (fun i _ => 3 - (intOf i).toNat)
              case atStart => exact ⟨0, rfl, by omega, Q, hCB, hSj, hk5B, Lib.hid (KO.nil (Keeps.refl _ _))⟩
              case round =>
                obtain ⟨j, rfl, hj, Q6, hC6, hS6, hk6, hko6⟩ := hrel
                by_cases hlt6 : j < 3
                · have hb6 := (hko6.out.2 XB _ _ _ hbB.out (by decide) (by decide)).trans hbB.out
                  have hc6 := cells3s (u := fun j => slv (V k j)) hb6 hlt6
                  have hQ6 : Q6.length = NP := by rw [hS6.out.1]; exact hNP.out
                  have hO6 := hC6.out.o k j (by rw [hQ6]; exact hlt5) hlt6
                  have hl6 : ((Q6[k]'(by rw [hQ6]; exact hlt5)).at j).length ≤ 1000000000000 := by
                    have h1 := ((hS6.out.2 k (by rw [hQ6]; exact hlt5) (by rw [hNP.out]; exact hlt5)).2.2 j hlt6).1.length_eq
                    have h2 := hbd.out k (by rw [hNP.out]; exact hlt5) j hlt6
                    omega
                  have hXl := lt_of_cell hc6
                  obtain ⟨⟨sa, sn, sc⟩, hv0⟩ : ∃ x, V k j = x := ⟨_, rfl⟩
                  rw [hv0] at hO6
                  simp only [hv0, slv] at hc6 hO6
                  have hsort := sortT_c wr W3.heap.size _ _ hO6 hl6
                  replace hsort := Lib.hid hsort
                  replace hO6 := Lib.hid hO6
                  replace hQ6 := Lib.hid hQ6
                  clear hb6 hl6
                  go_wp2_with fail
                  refine hsort.out.mono ?_
                  rintro e w7 ⟨rfl, L', hp7, hw7, hO7, hk7⟩
                  have hkn : k < Q6.length := by rw [hQ6.out]; exact hlt5
                  have hC7 := hC6.out.turn (k := k) (j := j) hkn hlt6 (L' := L') (w' := w7) (by rw [hv0]; exact hk7) (by rw [hv0]; exact hO7)
                  have hS7 := hS6.out.step hkn hlt6 hp7 hw7
                  have hkk7 : Keeps [] W3 w7 := hk6.out.fresh hk7 (fun b hb => .inr (hO6.out.ge b (by simpa using hb)))
                  have hko7 : KO WB w7 := hko6.out.trans (KO.of hk7 (fun b hb => by
                    obtain ⟨cs, hc⟩ := hO6.out.tag b (by simpa using hb)
                    exact ⟨cs, _, _, hc, .inr rfl⟩))
                  replace hC7 := Lib.hid hC7
                  replace hS7 := Lib.hid hS7
                  replace hkk7 := Lib.hid hkk7
                  replace hko7 := Lib.hid hko7
                  clear hp7 hw7 hO7 hk7 hsort
                  go_wp2
                  go_roundw
                  case rel => exact ⟨j + 1, rfl, by omega, _, hC7, hS7, hkk7, hko7⟩
                  case measure => simp [intOf]; omega
                · have hj3 : j = 3 := by omega
                  subst hj3
                  have hSn := Lib.hid hS6.out.next
                  go_wp2
                  go_roundw
                  case rel => exact ⟨k + 1, rfl, by omega, Q6, hC6, hSn, hk6⟩
                  case measure => simp [intOf]; omega
            · have hkN : k = NP := by omega
              subst hkN
              have hfin : ∃ P V Bc Y, w.heap.size ≤ Bc ∧ CL wr Bc (.slice ca k cc) P V ∧ SortedA t Y ∧ ClaimsP t Y P ∧ Keeps [] w wr := by
                refine ⟨Q, V, W3.heap.size, Y, hwW, hCQ.out, hS.out, ?_, hk03.out.trans hk5.out⟩
                have hs := hS5.out
                unfold ClaimsP
                rw [hOe.out, hP.out]
                exact ⟨hs.1, fun i h1 h2 => ⟨(hs.2 i h1 h2).1, (hs.2 i h1 h2).2.1, fun l hl => ⟨((hs.2 i h1 h2).2.2 l hl).1, ((hs.2 i h1 h2).2.2 l hl).2 (.inl (by rw [hs.1, hNP.out] at h1; exact h1))⟩⟩⟩
              replace hfin := Lib.hid hfin
              go_wp2
              go_ret
              obtain ⟨Pf, Vf, Bf, Yf, g1, g2, g3, g4, g5⟩ := hfin.out
              exact ⟨_, Pf, Vf, Bf, Yf, rfl, g1, g2, g3, g4, g5⟩
end Go.Proofs.YtiplgpefapeapaaGreat

namespace Go.Proofs.YtiplgpefapeapaaGreat
open Go.RowKit

theorem snoc_ind {α : Type} {p : List α → Prop} (h0 : p []) (hs : ∀ l a, p l → p (l ++ [a])) (l : List α) : p l := by
  rw [← List.reverse_reverse l]
  induction l.reverse with
  | nil => exact h0
  | cons a r ih => rw [List.reverse_cons]; exact hs _ _ ih
theorem nil_or_snoc {α : Type} (l : List α) : l = [] ∨ ∃ r a, l = r ++ [a] := by
  induction l using snoc_ind with
  | h0 => exact .inl rfl
  | hs r a _ => exact .inr ⟨r, a, rfl⟩
/-- The machines that have answered, in the order of their first answers. -/
def msA (l : List Int) (a : Ans) : List Int := if l.getLast? = some a.m then l else l ++ [a.m]
def msOf (Y : List Ans) : List Int := Y.foldl msA []
def epOf (Y : List Ans) (m : Int) : Int := ((Y.find? (fun a => a.m == m)).map Ans.ep).getD 0
def stA (O : List (Qn × Int)) (m : Int) (a : Ans) : Option T3 := if a.m = m then (MapS.get (a.ow, a.m, a.n) O).map (fun o => (a.ow, a.n, o)) else none
def chA (O : List (Qn × Int)) (m : Int) (a : Ans) : Option T3 := if a.m = m ∧ MapS.get (a.ow, a.m, a.n) O = none then some (a.ow, a.n, 0) else none
def stOf (O : List (Qn × Int)) (Y : List Ans) (m : Int) : List T3 := Y.filterMap (stA O m)
def chOf (O : List (Qn × Int)) (Y : List Ans) (m : Int) : List T3 := Y.filterMap (chA O m)
def scN (t : Tr) (m : Int) (x : T3) : T3 := (x.1, x.2.1, luOf t (x.1, m, x.2.1))
def scS (t : Tr) (m : Int) (l : List T3) (x : T3) : List T3 := addN (scN t m x) l
def scA (t : Tr) (m : Int) (l : List T3) (a : Ans) : List T3 := if a.m = m then a.ins.foldl (scS t m) l else l
def scOf (t : Tr) (Y : List Ans) (m : Int) : List T3 := Y.foldl (scA t m) []
def clOf (t : Tr) (O : List (Qn × Int)) (Y : List Ans) (m : Int) : PCl := ⟨m, epOf Y m, stOf O Y m, scOf t Y m, chOf O Y m⟩

theorem updL_snoc (P : List PCl) (c : PCl) (j : Nat) (f : List T3 → List T3) : updL (P ++ [c]) j f = P ++ [c.upd j (f (c.at j))] := by
  rw [updL_at (n := P.length) (by simp)]
  simp
theorem openC_snoc (P : List PCl) (c : PCl) (a : Ans) : openC (P ++ [c]) a = if c.m = a.m then P ++ [c] else P ++ [c] ++ [⟨a.m, a.ep, [], [], []⟩] := by
  unfold openC
  have : (P ++ [c])[(P ++ [c]).length - 1]? = some c := by simp
  rw [this]
theorem sc_fold_snoc (t : Tr) (m : Int) (P : List PCl) : ∀ (l : List T3) (c : PCl), l.foldl (scC t m) (P ++ [c]) = P ++ [c.upd 1 (l.foldl (scS t m) c.sc)]
  | [], c => by simp [PCl.upd]
  | x :: r, c => by
    rw [List.foldl_cons, List.foldl_cons]
    unfold scC
    rw [updL_snoc]
    have ih := sc_fold_snoc t m P r (c.upd 1 (addN (x.1, x.2.1, luOf t (x.1, m, x.2.1)) (c.at 1)))
    unfold scC at ih
    rw [ih]
    rfl
theorem epOf_snoc {Y : List Ans} {m : Int} (h : ∃ b ∈ Y, b.m = m) (a : Ans) : epOf (Y ++ [a]) m = epOf Y m := by
  obtain ⟨b, hb, hm⟩ := h
  unfold epOf
  rw [List.find?_append]
  cases hf : Y.find? (fun a => a.m == m) with
  | some c => rfl
  | none =>
    rw [List.find?_eq_none] at hf
    have := hf b hb
    simp [hm] at this
theorem epOf_new {Y : List Ans} {a : Ans} (h : ∀ b ∈ Y, b.m ≠ a.m) : epOf (Y ++ [a]) a.m = a.ep := by
  unfold epOf
  rw [List.find?_append]
  have : Y.find? (fun b => b.m == a.m) = none := List.find?_eq_none.2 (fun b hb => by simpa using h b hb)
  rw [this]
  simp
theorem stOf_new {O : List (Qn × Int)} {Y : List Ans} {m : Int} (h : ∀ b ∈ Y, b.m ≠ m) : stOf O Y m = [] ∧ chOf O Y m = [] := by
  refine ⟨List.filterMap_eq_nil_iff.2 (fun a ha => ?_), List.filterMap_eq_nil_iff.2 (fun a ha => ?_)⟩
  · unfold stA; rw [if_neg (h a ha)]
  · unfold chA; rw [if_neg (fun e => h a ha e.1)]
theorem scOf_new {t : Tr} {m : Int} : ∀ {Y : List Ans} {l : List T3}, (∀ b ∈ Y, b.m ≠ m) → Y.foldl (scA t m) l = l
  | [], _, _ => rfl
  | a :: r, l, h => by
    rw [List.foldl_cons]
    have : scA t m l a = l := by unfold scA; rw [if_neg (h a (by simp))]
    rw [this]
    exact scOf_new (fun b hb => h b (by simp [hb]))
theorem clOf_snoc {t : Tr} {O : List (Qn × Int)} {Y : List Ans} {m : Int} {a : Ans} (hm : a.m ≠ m) (h : ∃ b ∈ Y, b.m = m) : clOf t O (Y ++ [a]) m = clOf t O Y m := by
  unfold clOf
  rw [epOf_snoc h]
  have e1 : stOf O (Y ++ [a]) m = stOf O Y m := by unfold stOf; rw [List.filterMap_append]; simp [stA, hm]
  have e2 : chOf O (Y ++ [a]) m = chOf O Y m := by unfold chOf; rw [List.filterMap_append]; simp [chA, hm]
  have e3 : scOf t (Y ++ [a]) m = scOf t Y m := by unfold scOf; rw [List.foldl_append]; simp [scA, hm]
  rw [e1, e2, e3]
/-- The raw claims, machine by machine. -/
theorem rawOf_eq (t : Tr) (O : List (Qn × Int)) (Y : List Ans) : Y.Pairwise (fun x y => qlt x.q y.q) → rawOf t O Y = (msOf Y).map (clOf t O Y) ∧ (msOf Y).Pairwise (· < ·) ∧ ∀ m, m ∈ msOf Y ↔ ∃ a ∈ Y, a.m = m := by
  induction Y using snoc_ind with
  | h0 => exact fun _ => ⟨rfl, List.Pairwise.nil, fun m => by simp [msOf]⟩
  | hs Y a ih =>
    intro hs
    obtain ⟨hs1, _, hs2⟩ := List.pairwise_append.1 hs
    obtain ⟨i1, i2, i3⟩ := ih hs1
    have hle : ∀ b ∈ Y, b.m ≤ a.m := fun b hb => by have := hs2 b hb a (by simp); unfold qlt Ans.q at this; simp only at this; omega
    have hmm : msOf (Y ++ [a]) = msA (msOf Y) a := by unfold msOf; rw [List.foldl_append]; rfl
    have hrr : rawOf t O (Y ++ [a]) = rawC t O (rawOf t O Y) a := by unfold rawOf; rw [List.foldl_append]; rfl
    obtain ⟨A, h1, h2, h3, h4, h5⟩ : ∃ A, msOf (Y ++ [a]) = A ++ [a.m] ∧ openC (rawOf t O Y) a = A.map (clOf t O Y) ++ [⟨a.m, epOf (Y ++ [a]) a.m, stOf O Y a.m, scOf t Y a.m, chOf O Y a.m⟩] ∧ (∀ m ∈ A, m < a.m) ∧ A.Pairwise (· < ·) ∧ ∀ m ∈ A, ∃ b ∈ Y, b.m = m := by
      rcases nil_or_snoc (msOf Y) with h | ⟨B, l, h⟩
      · have hY : ∀ b ∈ Y, b.m ≠ a.m := fun b hb _ => by
          have := (i3 b.m).2 ⟨b, hb, rfl⟩
          rw [h] at this; simp at this
        refine ⟨[], by rw [hmm, h]; rfl, ?_, by simp, List.Pairwise.nil, by simp⟩
        rw [i1, h, epOf_new hY, (stOf_new hY).1, (stOf_new hY).2]
        unfold scOf
        rw [scOf_new hY]
        rfl
      · have hl : l ∈ msOf Y := by rw [h]; simp
        obtain ⟨b, hb, hbl⟩ := (i3 l).1 hl
        have hBl : ∀ m ∈ B, m < l := fun m hm => by
          rw [h] at i2
          exact (List.pairwise_append.1 i2).2.2 m hm l (by simp)
        have hB : B.Pairwise (· < ·) := by rw [h] at i2; exact (List.pairwise_append.1 i2).1
        have hBY : ∀ m ∈ B, ∃ b ∈ Y, b.m = m := fun m hm => (i3 m).1 (by rw [h]; simp [hm])
        by_cases e : l = a.m
        · subst e
          refine ⟨B, by rw [hmm, h]; simp [msA], ?_, hBl, hB, hBY⟩
          rw [i1, h, List.map_append, List.map_cons, List.map_nil, openC_snoc, if_pos (show (clOf t O Y a.m).m = a.m from rfl), epOf_snoc ⟨b, hb, hbl⟩]
          rfl
        · have hla : l < a.m := by have := hle b hb; omega
          have hY : ∀ b ∈ Y, b.m ≠ a.m := fun c hc hca => by
            have := (i3 c.m).2 ⟨c, hc, rfl⟩
            rw [h] at this
            rcases List.mem_append.1 this with h6 | h6
            · have := hBl _ h6; omega
            · simp at h6; omega
          refine ⟨B ++ [l], by rw [hmm, h]; simp [msA, e], ?_, fun m hm => ?_, ?_, fun m hm => ?_⟩
          · rw [i1, h, List.map_append, List.map_cons, List.map_nil, openC_snoc, if_neg (show ¬ (clOf t O Y l).m = a.m from e), epOf_new hY, (stOf_new hY).1, (stOf_new hY).2]
            unfold scOf
            rw [scOf_new hY]
          · rcases List.mem_append.1 hm with h6 | h6
            · have := hBl _ h6; omega
            · simp at h6; omega
          · rw [← h]; exact i2
          · exact (i3 m).1 (by rw [h]; exact hm)
    refine ⟨?_, ?_, fun m => ?_⟩
    · rw [hrr, h1, List.map_append, List.map_cons, List.map_nil]
      have hA : A.map (clOf t O (Y ++ [a])) = A.map (clOf t O Y) := List.map_congr_left (fun m hm => clOf_snoc (by have := h3 m hm; omega) (h5 m hm))
      rw [hA]
      unfold rawC
      rw [h2]
      have e3 : scOf t (Y ++ [a]) a.m = a.ins.foldl (scS t a.m) (scOf t Y a.m) := by unfold scOf; rw [List.foldl_append]; simp [scA]
      unfold needC clOf
      cases hg : MapS.get (a.ow, a.m, a.n) O with
      | some o =>
        have e1 : stOf O (Y ++ [a]) a.m = stOf O Y a.m ++ [(a.ow, a.n, o)] := by unfold stOf; rw [List.filterMap_append]; simp [stA, hg]
        have e2 : chOf O (Y ++ [a]) a.m = chOf O Y a.m := by unfold chOf; rw [List.filterMap_append]; simp [chA, hg]
        simp only
        rw [updL_snoc, sc_fold_snoc, e1, e2, e3]
        rfl
      | none =>
        have e1 : stOf O (Y ++ [a]) a.m = stOf O Y a.m := by unfold stOf; rw [List.filterMap_append]; simp [stA, hg]
        have e2 : chOf O (Y ++ [a]) a.m = chOf O Y a.m ++ [(a.ow, a.n, 0)] := by unfold chOf; rw [List.filterMap_append]; simp [chA, hg]
        simp only
        rw [updL_snoc, sc_fold_snoc, e1, e2, e3]
        rfl
    · rw [h1, List.pairwise_append]
      exact ⟨h4, by simp, fun m hm k hk => by simp at hk; subst hk; exact h3 m hm⟩
    · rw [h1, List.mem_append]
      constructor
      · rintro (h6 | h6)
        · obtain ⟨b, hb, e⟩ := h5 m h6
          exact ⟨b, by simp [hb], e⟩
        · simp at h6; exact ⟨a, by simp, h6.symm⟩
      · rintro ⟨b, hb, e⟩
        rcases List.mem_append.1 hb with hb | hb
        · have := (i3 m).2 ⟨b, hb, e⟩
          have hb1 : m ∈ msA (msOf Y) a := by unfold msA; split <;> simp [this]
          rw [← hmm, h1] at hb1
          exact List.mem_append.1 hb1
        · simp at hb; subst hb; exact .inr (by simp [e])
/-- Keys that say their elements. -/
def KeyF (L : List T3) : Prop := ∀ x ∈ L, ∀ y ∈ L, x.1 = y.1 → x.2.1 = y.2.1 → x = y
theorem sortedT_uniq : ∀ {Y Z : List T3}, Y.Perm Z → Y.Pairwise (fun x y => ¬ tlt y x) → Z.Pairwise (fun x y => ¬ tlt y x) → KeyF Y → Y = Z
  | [], Z, hp, _, _, _ => by simpa using hp.symm
  | y :: Y, [], hp, _, _, _ => by simp at hp
  | y :: Y, z :: Z, hp, h1, h2, hk => by
    have e : y = z := by
      obtain ⟨a1, _⟩ := List.pairwise_cons.1 h1
      obtain ⟨b1, _⟩ := List.pairwise_cons.1 h2
      have hy : y ∈ z :: Z := hp.mem_iff.1 (by simp)
      have hz : z ∈ y :: Y := hp.mem_iff.2 (by simp)
      rcases List.mem_cons.1 hy with e | hy
      · exact e
      · rcases List.mem_cons.1 hz with e | hz2
        · exact e.symm
        · have c1 := a1 z hz2
          have c2 := b1 y hy
          unfold tlt at c1 c2
          exact hk y (by simp) z hz (by omega) (by omega)
    subst e
    rw [sortedT_uniq (List.perm_cons _ |>.1 hp) (List.pairwise_cons.1 h1).2 (List.pairwise_cons.1 h2).2 (fun a ha b hb => hk a (by simp [ha]) b (by simp [hb]))]
theorem addN_mem (n : T3) (l : List T3) (e : T3) : e ∈ addN n l ↔ e ∈ l ∨ e = n := by
  unfold addN
  split
  · rename_i h
    constructor
    · exact .inl
    · rintro (h1 | rfl)
      · exact h1
      · exact h
  · simp
theorem scs_mem (t : Tr) (m : Int) (e : T3) : ∀ (l : List T3) (acc : List T3), e ∈ l.foldl (scS t m) acc ↔ e ∈ acc ∨ ∃ x ∈ l, e = scN t m x
  | [], acc => by simp
  | x :: r, acc => by
    rw [List.foldl_cons, scs_mem t m e r]
    unfold scS
    rw [addN_mem]
    simp [or_assoc]
theorem scOf_mem (t : Tr) (Y : List Ans) (m : Int) (e : T3) : e ∈ scOf t Y m ↔ ∃ a ∈ Y, a.m = m ∧ ∃ x ∈ a.ins, e = scN t m x := by
  induction Y using snoc_ind with
  | h0 => simp [scOf]
  | hs Y a ih =>
    have : scOf t (Y ++ [a]) m = scA t m (scOf t Y m) a := by unfold scOf; rw [List.foldl_append]; rfl
    rw [this]
    unfold scA
    split
    · rename_i hm
      rw [scs_mem, ih]
      constructor
      · rintro (⟨b, hb, h⟩ | h)
        · exact ⟨b, by simp [hb], h⟩
        · exact ⟨a, by simp, hm, h⟩
      · rintro ⟨b, hb, h⟩
        rcases List.mem_append.1 hb with hb | hb
        · exact .inl ⟨b, hb, h⟩
        · simp at hb; subst hb; exact .inr h.2
    · rename_i hm
      rw [ih]
      constructor
      · rintro ⟨b, hb, h⟩
        exact ⟨b, by simp [hb], h⟩
      · rintro ⟨b, hb, h⟩
        rcases List.mem_append.1 hb with hb | hb
        · exact ⟨b, hb, h⟩
        · simp at hb; subst hb; exact absurd h.1 hm
theorem stOf_mem (O : List (Qn × Int)) (Y : List Ans) (m : Int) (e : T3) : e ∈ stOf O Y m ↔ ∃ a ∈ Y, a.m = m ∧ ∃ o, MapS.get (a.ow, m, a.n) O = some o ∧ e = (a.ow, a.n, o) := by
  unfold stOf
  rw [List.mem_filterMap]
  constructor
  · rintro ⟨a, ha, h⟩
    unfold stA at h
    split at h
    · rename_i hm
      obtain ⟨o, h1, h2⟩ := Option.map_eq_some_iff.1 h
      rw [hm] at h1
      exact ⟨a, ha, hm, o, h1, h2.symm⟩
    · cases h
  · rintro ⟨a, ha, hm, o, h1, rfl⟩
    refine ⟨a, ha, ?_⟩
    unfold stA
    rw [if_pos hm, hm, h1]; rfl
theorem chOf_mem (O : List (Qn × Int)) (Y : List Ans) (m : Int) (e : T3) : e ∈ chOf O Y m ↔ ∃ a ∈ Y, a.m = m ∧ MapS.get (a.ow, m, a.n) O = none ∧ e = (a.ow, a.n, 0) := by
  unfold chOf
  rw [List.mem_filterMap]
  constructor
  · rintro ⟨a, ha, h⟩
    unfold chA at h
    split at h
    · rename_i hm
      obtain ⟨h1, h2⟩ := hm
      rw [h1] at h2
      simp at h
      exact ⟨a, ha, h1, h2, h.symm⟩
    · cases h
  · rintro ⟨a, ha, hm, h1, rfl⟩
    refine ⟨a, ha, ?_⟩
    unfold chA
    rw [if_pos ⟨hm, by rw [hm]; exact h1⟩]
theorem out_fold (m : Int) (k : Qn) : ∀ (l : List T3) (acc : List (Qn × Int)), (MapS.get k (l.foldl (outA m) acc)).isSome = true ↔ (MapS.get k acc).isSome = true ∨ ∃ x ∈ l, k = (m, x.1, x.2.1)
  | [], acc => by simp
  | x :: r, acc => by
    rw [List.foldl_cons, out_fold m k r]
    have : (MapS.get k (outA m acc x)).isSome = true ↔ (MapS.get k acc).isSome = true ∨ k = (m, x.1, x.2.1) := by
      unfold outA
      split
      · rename_i h
        constructor
        · exact .inl
        · rintro (h1 | rfl)
          · exact h1
          · exact h
      · rename_i h
        rw [MapS.get_append]
        by_cases e : k = (m, x.1, x.2.1)
        · subst e
          simp [MapS.get]
        · have e' : ¬ (m, x.1, x.2.1) = k := fun h => e h.symm
          simp [MapS.get, e, e']
    rw [this]
    simp [or_assoc]
theorem outsOf_some (Y : List Ans) (k : Qn) : (MapS.get k (outsOf Y)).isSome = true ↔ ∃ a ∈ Y, ∃ x ∈ a.ins, k = (a.m, x.1, x.2.1) := by
  induction Y using snoc_ind with
  | h0 => simp [outsOf, MapS.get]
  | hs Y a ih =>
    have : outsOf (Y ++ [a]) = a.ins.foldl (outA a.m) (outsOf Y) := by unfold outsOf; rw [List.foldl_append]; rfl
    rw [this, out_fold, ih]
    constructor
    · rintro (⟨b, hb, h⟩ | h)
      · exact ⟨b, by simp [hb], h⟩
      · exact ⟨a, by simp, h⟩
    · rintro ⟨b, hb, h⟩
      rcases List.mem_append.1 hb with hb | hb
      · exact .inl ⟨b, hb, h⟩
      · simp at hb; subst hb; exact .inr h
/-- Answers of one machine have different owners or numbers. -/
theorem ans_uniq {Y : List Ans} (hs : Y.Pairwise (fun x y => qlt x.q y.q)) {a b : Ans} (ha : a ∈ Y) (hb : b ∈ Y) (h : a.q = b.q) : a = b := by
  induction hs with
  | nil => simp at ha
  | @cons y Y h1 _ ih =>
    rcases List.mem_cons.1 ha with ea | ha2
    · rcases List.mem_cons.1 hb with eb | hb2
      · rw [ea, eb]
      · have := h1 b hb2; rw [← ea, h] at this; exact absurd this (qlt_irrefl _)
    · rcases List.mem_cons.1 hb with eb | hb2
      · have := h1 a ha2; rw [← eb, h] at this; exact absurd this (qlt_irrefl _)
      · exact ih ha2 hb2
theorem clOf_key (t : Tr) (O : List (Qn × Int)) (Y : List Ans) (hs : Y.Pairwise (fun x y => qlt x.q y.q)) (m : Int) : ∀ j, j < 3 → KeyF ((clOf t O Y m).at j) := by
  intro j hj
  match j, hj with
  | 0, _ =>
    intro x hx y hy h1 h2
    obtain ⟨a, ha, hm, o, g1, rfl⟩ := (stOf_mem _ _ _ _).1 hx
    obtain ⟨b, hb, hm2, o2, g2, rfl⟩ := (stOf_mem _ _ _ _).1 hy
    have : a = b := ans_uniq hs ha hb (by simp only [Ans.q]; rw [hm, hm2, show a.ow = b.ow from h1, show a.n = b.n from h2])
    subst this
    rw [g1] at g2; cases g2; rfl
  | 1, _ =>
    intro x hx y hy h1 h2
    obtain ⟨a, ha, hm, u, hu, rfl⟩ := (scOf_mem _ _ _ _).1 hx
    obtain ⟨b, hb, hm2, v, hv, rfl⟩ := (scOf_mem _ _ _ _).1 hy
    simp only [scN] at h1 h2 ⊢
    rw [h1, h2]
  | 2, _ =>
    intro x hx y hy h1 h2
    obtain ⟨a, ha, hm, g1, rfl⟩ := (chOf_mem _ _ _ _).1 hx
    obtain ⟨b, hb, hm2, g2, rfl⟩ := (chOf_mem _ _ _ _).1 hy
    simp only at h1 h2 ⊢
    rw [h1, h2]
/-- The claims, each machine's own. -/
structure ClmAt (t : Tr) (Y : List Ans) (p : PCl) (mm : Int) : Prop where
  m : p.m = mm
  ep : p.ep = epOf Y mm
  at' : ∀ j, j < 3 → (p.at j).Perm ((clOf t (outsOf Y) Y mm).at j) ∧ (p.at j).Pairwise (fun x y => ¬ tlt y x)
theorem ClaimsP.at' {t : Tr} {Y : List Ans} {P : List PCl} (hs : Y.Pairwise (fun x y => qlt x.q y.q)) (h : ClaimsP t Y P) :
    P.length = (msOf Y).length ∧ ∀ (k : Nat) (h1 : k < P.length) (h2 : k < (msOf Y).length), ClmAt t Y P[k] (msOf Y)[k] := by
  obtain ⟨e1, _, _⟩ := rawOf_eq t (outsOf Y) Y hs
  unfold ClaimsP at h
  rw [e1] at h
  obtain ⟨h1, h2⟩ := h
  rw [List.length_map] at h1
  refine ⟨h1, fun k k1 k2 => ?_⟩
  obtain ⟨a1, a2, a3⟩ := h2 k k1 (by rw [List.length_map]; exact k2)
  simp only [List.getElem_map] at a1 a2 a3
  exact ⟨a1, a2, a3⟩
theorem ClaimsP.of_at {t : Tr} {Y : List Ans} {P : List PCl} (hs : Y.Pairwise (fun x y => qlt x.q y.q)) (h1 : P.length = (msOf Y).length) (h2 : ∀ (k : Nat) (h1 : k < P.length) (h2 : k < (msOf Y).length), ClmAt t Y P[k] (msOf Y)[k]) : ClaimsP t Y P := by
  obtain ⟨e1, _, _⟩ := rawOf_eq t (outsOf Y) Y hs
  unfold ClaimsP
  rw [e1]
  refine ⟨by rw [List.length_map]; exact h1, fun k k1 k2 => ?_⟩
  rw [List.length_map] at k2
  obtain ⟨a1, a2, a3⟩ := h2 k k1 k2
  simp only [List.getElem_map]
  exact ⟨a1, a2, a3⟩
theorem pcl_ext {p q : PCl} (h1 : p.m = q.m) (h2 : p.ep = q.ep) (h3 : ∀ j, j < 3 → p.at j = q.at j) : p = q := by
  obtain ⟨a, b, c, d, e⟩ := p
  obtain ⟨a', b', c', d', e'⟩ := q
  have e0 := h3 0 (by omega)
  have e1 := h3 1 (by omega)
  have e2 := h3 2 (by omega)
  simp only [PCl.at] at h1 h2 e0 e1 e2
  subst h1 h2 e0 e1 e2
  rfl
theorem KeyF.perm {L M : List T3} (h : KeyF L) (hp : M.Perm L) : KeyF M := fun x hx y hy => h x (hp.mem_iff.1 hx) y (hp.mem_iff.1 hy)
theorem ClmAt.uniq {t : Tr} {Y : List Ans} {p q : PCl} {m : Int} (hs : Y.Pairwise (fun x y => qlt x.q y.q)) (h : ClmAt t Y p m) (g : ClmAt t Y q m) : p = q :=
  pcl_ext (h.m.trans g.m.symm) (h.ep.trans g.ep.symm) (fun j hj => by
    obtain ⟨a1, a2⟩ := h.at' j hj
    obtain ⟨b1, b2⟩ := g.at' j hj
    exact sortedT_uniq (a1.trans b1.symm) a2 b2 ((clOf_key t _ Y hs m j hj).perm a1))
theorem ClaimsP.uniq {t : Tr} {Y : List Ans} {P Q : List PCl} (hs : Y.Pairwise (fun x y => qlt x.q y.q)) (h : ClaimsP t Y P) (g : ClaimsP t Y Q) : P = Q := by
  obtain ⟨h1, h2⟩ := h.at' hs
  obtain ⟨g1, g2⟩ := g.at' hs
  exact List.ext_getElem (h1.trans g1.symm) (fun k k1 k2 => (h2 k k1 (by omega)).uniq hs (g2 k k2 (by omega)))
theorem rawOf_congr {t u : Tr} (h : luOf t = luOf u) (O : List (Qn × Int)) (Y : List Ans) : rawOf t O Y = rawOf u O Y := by
  have h1 : scC t = scC u := by funext m P x; unfold scC; rw [h]
  have h2 : rawC t = rawC u := by funext O P a; unfold rawC; rw [h1]
  unfold rawOf
  rw [h2]
theorem ClaimsP.congr {t u : Tr} {Y : List Ans} {P : List PCl} (h : luOf t = luOf u) (g : ClaimsP t Y P) : ClaimsP u Y P := by
  unfold ClaimsP at g ⊢
  rw [← rawOf_congr h]
  exact g
end Go.Proofs.YtiplgpefapeapaaGreat

namespace Go.Proofs.YtiplgpefapeapaaGreat
open Go.RowKit

/-- A need is put in its place, if there is none with its key. -/
def putN (n : T3) : List T3 → List T3
  | [] => [n]
  | x :: r => if tlt x n then x :: putN n r else if x.1 = n.1 ∧ x.2.1 = n.2.1 then x :: r else n :: x :: r
theorem putN_mem {n e : T3} : ∀ {l : List T3}, e ∈ putN n l → e ∈ l ∨ e = n
  | [], h => by simp [putN] at h; exact .inr h
  | x :: r, h => by
    unfold putN at h
    split at h
    · rcases List.mem_cons.1 h with rfl | h
      · exact .inl (by simp)
      · rcases putN_mem h with h | h
        · exact .inl (by simp [h])
        · exact .inr h
    · split at h
      · exact .inl h
      · rcases List.mem_cons.1 h with rfl | h
        · exact .inr rfl
        · exact .inl h
theorem tlt_trans {x y z : T3} : tlt x y → tlt y z → tlt x z := by unfold tlt; omega
theorem putN_sorted {n : T3} : ∀ {l : List T3}, l.Pairwise tlt → (putN n l).Pairwise tlt
  | [], _ => by simp [putN]
  | x :: r, h => by
    obtain ⟨h1, h2⟩ := List.pairwise_cons.1 h
    unfold putN
    split
    · rename_i hx
      refine List.pairwise_cons.2 ⟨fun e he => ?_, putN_sorted h2⟩
      rcases putN_mem he with he | rfl
      · exact h1 e he
      · exact hx
    · rename_i hx
      split
      · exact h
      · rename_i hk
        have hn : tlt n x := by unfold tlt at hx ⊢; omega
        refine List.pairwise_cons.2 ⟨fun e he => ?_, h⟩
        rcases List.mem_cons.1 he with rfl | he
        · exact hn
        · exact tlt_trans hn (h1 e he)
theorem putN_new {n : T3} : ∀ {l : List T3}, (∀ x ∈ l, ¬ (x.1 = n.1 ∧ x.2.1 = n.2.1)) → (putN n l).Perm (n :: l)
  | [], _ => by simp [putN]
  | x :: r, h => by
    unfold putN
    split
    · exact ((putN_new (fun y hy => h y (by simp [hy]))).cons x).trans (List.Perm.swap _ _ _)
    · rw [if_neg (h x (by simp))]
theorem putN_old {n : T3} : ∀ {l : List T3}, l.Pairwise tlt → (∃ x ∈ l, x.1 = n.1 ∧ x.2.1 = n.2.1) → putN n l = l
  | [], _, h => by simp at h
  | x :: r, hs, h => by
    obtain ⟨h1, h2⟩ := List.pairwise_cons.1 hs
    unfold putN
    obtain ⟨y, hy, hk⟩ := h
    rcases List.mem_cons.1 hy with rfl | hy
    · rw [if_neg (by unfold tlt; omega), if_pos hk]
    · have hxy := h1 y hy
      rw [if_pos (by unfold tlt at *; omega), putN_old h2 ⟨y, hy, hk⟩]
/-- An answer is put in its place. -/
def insA (a : Ans) : List Ans → List Ans
  | [] => [a]
  | x :: r => if qlt x.q a.q then x :: insA a r else a :: x :: r
theorem insA_perm (a : Ans) : ∀ l : List Ans, (insA a l).Perm (a :: l)
  | [] => by simp [insA]
  | x :: r => by
    unfold insA
    split
    · exact ((insA_perm a r).cons x).trans (List.Perm.swap _ _ _)
    · exact List.Perm.refl _
theorem insA_sorted {a : Ans} : ∀ {l : List Ans}, l.Pairwise (fun x y => qlt x.q y.q) → (∀ x ∈ l, x.q ≠ a.q) → (insA a l).Pairwise (fun x y => qlt x.q y.q)
  | [], _, _ => by simp [insA]
  | x :: r, h, hn => by
    obtain ⟨h1, h2⟩ := List.pairwise_cons.1 h
    unfold insA
    split
    · rename_i hx
      refine List.pairwise_cons.2 ⟨fun e he => ?_, insA_sorted h2 (fun y hy => hn y (by simp [hy]))⟩
      rcases List.mem_cons.1 ((insA_perm a r).mem_iff.1 he) with rfl | he
      · exact hx
      · exact h1 e he
    · rename_i hx
      have hax : qlt a.q x.q := by
        by_cases e : qlt a.q x.q
        · exact e
        · exact absurd (qlt_total hx e) (hn x (by simp))
      refine List.pairwise_cons.2 ⟨fun e he => ?_, h⟩
      rcases List.mem_cons.1 he with rfl | he
      · exact hax
      · exact qlt_trans hax (h1 e he)
/-- The answers of the questions, in the order of the questions, put in their places. -/
def insO (l : List Ans) (p : Qn × Option Ans) : List Ans := match p.2 with
  | some a => insA a l
  | none => l
def srtOf (qs : Qs) : List Ans := qs.foldl insO []
theorem rec_vals : ∀ qs : Qs, (recOf qs).map (·.2) = qs.filterMap (·.2)
  | [] => rfl
  | (x, none) :: r => by rw [recOf_none, rec_vals r]; rfl
  | (x, some a) :: r => by rw [recOf_some, List.map_cons, rec_vals r]; rfl
theorem srt_fold : ∀ (qs : Qs) (l : List Ans), (qs.foldl insO l).Perm (l ++ qs.filterMap (·.2))
  | [], l => by simp
  | (x, none) :: r, l => by
    rw [List.foldl_cons]
    exact (srt_fold r l).trans (by simp)
  | (x, some a) :: r, l => by
    rw [List.foldl_cons]
    refine (srt_fold r (insA a l)).trans ?_
    rw [show List.filterMap (fun x : Qn × Option Ans => x.2) ((x, some a) :: r) = a :: List.filterMap (fun x => x.2) r from rfl]
    exact ((insA_perm a l).append_right _).trans List.perm_middle.symm
theorem srt_sorted : ∀ (qs : Qs) (l : List Ans), l.Pairwise (fun x y => qlt x.q y.q) → ((l ++ qs.filterMap (·.2)).map Ans.q).Nodup → (qs.foldl insO l).Pairwise (fun x y => qlt x.q y.q)
  | [], l, h, _ => h
  | (x, none) :: r, l, h, hn => by
    rw [List.foldl_cons]
    exact srt_sorted r l h (by simpa using hn)
  | (x, some a) :: r, l, h, hn => by
    rw [List.foldl_cons]
    rw [show List.filterMap (fun x : Qn × Option Ans => x.2) ((x, some a) :: r) = a :: List.filterMap (fun x => x.2) r from rfl] at hn
    refine srt_sorted r (insA a l) (insA_sorted h (fun y hy e => ?_)) ?_
    · rw [List.map_append, List.nodup_append] at hn
      exact hn.2.2 y.q (List.mem_map.2 ⟨y, hy, rfl⟩) a.q (by simp) e
    · exact (((insA_perm a l).append_right _).trans List.perm_middle.symm |>.map Ans.q).nodup_iff.2 hn
theorem srtOf_sorted {t : Tr} (h : t.Inv) : SortedA t (srtOf t.qs) := by
  have hv : t.rec'.map (·.2) = t.qs.filterMap (·.2) := rec_vals t.qs
  refine ⟨?_, srt_sorted _ _ List.Pairwise.nil ?_⟩
  · rw [hv]
    have := srt_fold t.qs []
    rw [List.nil_append] at this
    exact this
  · rw [List.nil_append, ← hv, List.map_map]
    have e : t.rec'.map (Ans.q ∘ (·.2)) = t.rec'.map (·.1) := List.map_congr_left (fun p hp => h.rq p hp)
    rw [e]
    exact recOf_nd h.nd
/-- One answer's needs, as the specification notes them. -/
def stR (O : List (Qn × Int)) (a : Ans) (l : List T3) : List T3 := match MapS.get (a.ow, a.m, a.n) O with
  | some o => putN (a.ow, a.n, o) l
  | none => l
def chR (O : List (Qn × Int)) (a : Ans) (l : List T3) : List T3 := match MapS.get (a.ow, a.m, a.n) O with
  | some _ => l
  | none => putN (a.ow, a.n, 0) l
def scR (t : Tr) (m : Int) (l : List T3) (x : T3) : List T3 := putN (scN t m x) l
def refA (t : Tr) (O : List (Qn × Int)) (c : PCl) (a : Ans) : PCl := ⟨c.m, c.ep, stR O a c.st, a.ins.foldl (scR t a.m) c.sc, chR O a c.ch⟩
def refC (t : Tr) (O : List (Qn × Int)) (P : List PCl) (a : Ans) : List PCl := let Q := openC P a; match Q[Q.length - 1]? with
  | some c => Q.take (Q.length - 1) ++ [refA t O c a]
  | none => Q
def refOf (t : Tr) (O : List (Qn × Int)) (Y : List Ans) : List PCl := Y.foldl (refC t O) []
theorem refC_at {t : Tr} {O : List (Qn × Int)} {P R : List PCl} {a : Ans} {c : PCl} (h : openC P a = R ++ [c]) : refC t O P a = R ++ [refA t O c a] := by
  unfold refC
  rw [h]
  simp
/-- Both ways of noting, side by side. -/
structure RC1 (t : Tr) (Z : List Ans) (p p' : PCl) : Prop where
  m : p'.m = p.m
  ep : p'.ep = p.ep
  perm : ∀ j, j < 3 → (p'.at j).Perm (p.at j)
  srt : ∀ j, j < 3 → (p'.at j).Pairwise tlt
  lu : ∀ e ∈ p.sc, e.2.2 = luOf t (e.1, p.m, e.2.1)
  st : ∀ e ∈ p.st, ∃ b ∈ Z, b.m = p.m ∧ b.ow = e.1 ∧ b.n = e.2.1
  ch : ∀ e ∈ p.ch, ∃ b ∈ Z, b.m = p.m ∧ b.ow = e.1 ∧ b.n = e.2.1
structure RC (t : Tr) (Z : List Ans) (P P' : List PCl) : Prop where
  len : P'.length = P.length
  at' : ∀ k (h1 : k < P'.length) (h2 : k < P.length), RC1 t Z P[k] P'[k]
theorem RC1.mono {t : Tr} {Z Z' : List Ans} {p p' : PCl} (h : RC1 t Z p p') (hz : ∀ b ∈ Z, b ∈ Z') : RC1 t Z' p p' :=
  ⟨h.m, h.ep, h.perm, h.srt, h.lu, fun e he => by obtain ⟨b, hb, r⟩ := h.st e he; exact ⟨b, hz b hb, r⟩, fun e he => by obtain ⟨b, hb, r⟩ := h.ch e he; exact ⟨b, hz b hb, r⟩⟩
theorem RC.mono {t : Tr} {Z Z' : List Ans} {P P' : List PCl} (h : RC t Z P P') (hz : ∀ b ∈ Z, b ∈ Z') : RC t Z' P P' := ⟨h.len, fun k h1 h2 => (h.at' k h1 h2).mono hz⟩
theorem RC.snoc {t : Tr} {Z : List Ans} {P P' : List PCl} {c c' : PCl} (h : RC t Z P P') (hc : RC1 t Z c c') : RC t Z (P ++ [c]) (P' ++ [c']) := by
  refine ⟨by simp [h.len], fun k h1 h2 => ?_⟩
  have hl := h.len
  by_cases e : k < P.length
  · rw [List.getElem_append_left e, List.getElem_append_left (by omega)]
    exact h.at' k (by omega) e
  · have h3 : k = P.length := by simp at h2; omega
    subst h3
    rw [List.getElem_append_right (by omega), List.getElem_append_right (by omega)]
    simpa [hl] using hc
theorem RC.split {t : Tr} {Z : List Ans} {P P' : List PCl} {c c' : PCl} (h : RC t Z (P ++ [c]) (P' ++ [c'])) : RC t Z P P' ∧ RC1 t Z c c' := by
  have hl : P'.length = P.length := by have := h.len; simpa using this
  refine ⟨⟨hl, fun k h1 h2 => ?_⟩, ?_⟩
  · have := h.at' k (by simp; omega) (by simp; omega)
    rw [List.getElem_append_left h2, List.getElem_append_left h1] at this
    exact this
  · have := h.at' P.length (by simp; omega) (by simp)
    rw [List.getElem_append_right (by omega), List.getElem_append_right (by omega)] at this
    simpa [hl] using this
theorem RC.open {t : Tr} {Z : List Ans} {P P' : List PCl} (h : RC t Z P P') (a : Ans) : ∃ R R' c c', openC P a = R ++ [c] ∧ openC P' a = R' ++ [c'] ∧ RC t Z R R' ∧ RC1 t Z c c' ∧ c.m = a.m := by
  have hnew : RC1 t Z ⟨a.m, a.ep, [], [], []⟩ ⟨a.m, a.ep, [], [], []⟩ := ⟨rfl, rfl, fun j hj => List.Perm.refl _, fun j hj => by unfold PCl.at; split <;> exact List.Pairwise.nil, by simp, by simp, by simp⟩
  rcases nil_or_snoc P with rfl | ⟨R, c, rfl⟩
  · have : P' = [] := List.length_eq_zero_iff.1 (by have := h.len; simpa using this)
    subst this
    exact ⟨[], [], _, _, rfl, rfl, h, hnew, rfl⟩
  · rcases nil_or_snoc P' with rfl | ⟨R', c', rfl⟩
    · have := h.len; simp at this
    · obtain ⟨hR, hc⟩ := h.split
      rw [openC_snoc, openC_snoc, hc.m]
      split
      · rename_i e
        exact ⟨R, R', c, c', rfl, rfl, hR, hc, e⟩
      · exact ⟨R ++ [c], R' ++ [c'], _, _, rfl, rfl, h, hnew, rfl⟩
theorem sc_both (t : Tr) (m : Int) : ∀ (l : List T3) (x y : List T3), y.Perm x → y.Pairwise tlt → (∀ e ∈ x, e.2.2 = luOf t (e.1, m, e.2.1)) →
    (l.foldl (scR t m) y).Perm (l.foldl (scS t m) x) ∧ (l.foldl (scR t m) y).Pairwise tlt ∧ ∀ e ∈ l.foldl (scS t m) x, e.2.2 = luOf t (e.1, m, e.2.1)
  | [], x, y, h1, h2, h3 => ⟨h1, h2, h3⟩
  | u :: r, x, y, h1, h2, h3 => by
    rw [List.foldl_cons, List.foldl_cons]
    have hn : (scN t m u).2.2 = luOf t ((scN t m u).1, m, (scN t m u).2.1) := rfl
    refine sc_both t m r _ _ ?_ (putN_sorted h2) (fun e he => ?_)
    · unfold scR scS addN
      by_cases hm : scN t m u ∈ x
      · rw [if_pos hm, putN_old h2 ⟨_, h1.mem_iff.2 hm, rfl, rfl⟩]
        exact h1
      · rw [if_neg hm]
        refine (putN_new (fun e he hk => ?_)).trans ((h1.cons _).trans (List.perm_append_singleton _ _).symm)
        have hex := h1.mem_iff.1 he
        have := h3 e hex
        have e2 : e = scN t m u := by
          obtain ⟨e0, e1, e2⟩ := e
          obtain ⟨k1, k2⟩ := hk
          simp only at this k1 k2
          rw [k1, k2] at this
          rw [Prod.mk.injEq, Prod.mk.injEq] 
          exact ⟨k1, k2, this⟩
        rw [e2] at hex
        exact hm hex
    · unfold scS at he
      rcases (addN_mem _ _ _).1 he with he | rfl
      · exact h3 e he
      · exact hn
theorem RC1.step {t : Tr} {O : List (Qn × Int)} {Z : List Ans} {c c' : PCl} {a : Ans} (h : RC1 t Z c c') (hm : c.m = a.m) (hZ : ∀ b ∈ Z, b.q ≠ a.q) {d : PCl}
    (hd : d = (match MapS.get (a.ow, a.m, a.n) O with
      | some o => c.upd 0 (c.st ++ [(a.ow, a.n, o)])
      | none => c.upd 2 (c.ch ++ [(a.ow, a.n, 0)]) : PCl).upd 1 (a.ins.foldl (scS t a.m) c.sc)) : RC1 t (Z ++ [a]) d (refA t O c' a) := by
  obtain ⟨s1, s2, s3⟩ := sc_both t a.m a.ins c.sc c'.sc (h.perm 1 (by omega)) (h.srt 1 (by omega)) (by rw [← hm]; exact h.lu)
  have hst : ∀ {l l' : List T3} {n : T3}, l'.Perm l → l'.Pairwise tlt → (∀ e ∈ l, ∃ b ∈ Z, b.m = c.m ∧ b.ow = e.1 ∧ b.n = e.2.1) → n.1 = a.ow → n.2.1 = a.n → (putN n l').Perm (l ++ [n]) ∧ (putN n l').Pairwise tlt := by
    intro l l' n hp hs hb h1 h2
    refine ⟨(putN_new (fun e he hk => ?_)).trans ((hp.cons _).trans (List.perm_append_singleton _ _).symm), putN_sorted hs⟩
    obtain ⟨b, hbz, b1, b2, b3⟩ := hb e (hp.mem_iff.1 he)
    exact hZ b hbz (by unfold Ans.q; rw [b1, hm, b2, b3, hk.1, hk.2, h1, h2])
  cases hg : MapS.get (a.ow, a.m, a.n) O with
  | some o =>
    rw [hg] at hd
    obtain ⟨q1, q2⟩ := hst (n := (a.ow, a.n, o)) (h.perm 0 (by omega)) (h.srt 0 (by omega)) h.st rfl rfl
    subst hd
    refine ⟨h.m, h.ep, fun j hj => ?_, fun j hj => ?_, ?_, fun e he => ?_, fun e he => ?_⟩
    · match j, hj with
      | 0, _ => simp only [refA, stR, hg]; exact q1
      | 1, _ => exact s1
      | 2, _ => simp only [refA, chR, hg]; exact h.perm 2 (by omega)
    · match j, hj with
      | 0, _ => simp only [refA, stR, hg]; exact q2
      | 1, _ => exact s2
      | 2, _ => simp only [refA, chR, hg]; exact h.srt 2 (by omega)
    · intro e he
      have := s3 e he
      rw [← hm] at this; exact this
    · have he' : e ∈ c.st ++ [(a.ow, a.n, o)] := he
      rcases List.mem_append.1 he' with he | he
      · obtain ⟨b, hb, r⟩ := h.st e he; exact ⟨b, by simp [hb], r⟩
      · simp at he; subst he; exact ⟨a, by simp, hm.symm, rfl, rfl⟩
    · obtain ⟨b, hb, r⟩ := h.ch e he; exact ⟨b, by simp [hb], r⟩
  | none =>
    rw [hg] at hd
    obtain ⟨q1, q2⟩ := hst (n := (a.ow, a.n, 0)) (h.perm 2 (by omega)) (h.srt 2 (by omega)) h.ch rfl rfl
    subst hd
    refine ⟨h.m, h.ep, fun j hj => ?_, fun j hj => ?_, ?_, fun e he => ?_, fun e he => ?_⟩
    · match j, hj with
      | 0, _ => simp only [refA, stR, hg]; exact h.perm 0 (by omega)
      | 1, _ => exact s1
      | 2, _ => simp only [refA, chR, hg]; exact q1
    · match j, hj with
      | 0, _ => simp only [refA, stR, hg]; exact h.srt 0 (by omega)
      | 1, _ => exact s2
      | 2, _ => simp only [refA, chR, hg]; exact q2
    · intro e he
      have := s3 e he
      rw [← hm] at this; exact this
    · obtain ⟨b, hb, r⟩ := h.st e he; exact ⟨b, by simp [hb], r⟩
    · have he' : e ∈ c.ch ++ [(a.ow, a.n, 0)] := he
      rcases List.mem_append.1 he' with he | he
      · obtain ⟨b, hb, r⟩ := h.ch e he; exact ⟨b, by simp [hb], r⟩
      · simp at he; subst he; exact ⟨a, by simp, hm.symm, rfl, rfl⟩
theorem RC.step {t : Tr} {O : List (Qn × Int)} {Z : List Ans} {P P' : List PCl} {a : Ans} (h : RC t Z P P') (hZ : ∀ b ∈ Z, b.q ≠ a.q) : RC t (Z ++ [a]) (rawC t O P a) (refC t O P' a) := by
  obtain ⟨R, R', c, c', h1, h2, h3, h4, h5⟩ := h.open a
  rw [refC_at h2]
  have hr : rawC t O P a = R ++ [(match MapS.get (a.ow, a.m, a.n) O with
      | some o => c.upd 0 (c.st ++ [(a.ow, a.n, o)])
      | none => c.upd 2 (c.ch ++ [(a.ow, a.n, 0)]) : PCl).upd 1 (a.ins.foldl (scS t a.m) c.sc)] := by
    unfold rawC needC
    rw [h1]
    cases hg : MapS.get (a.ow, a.m, a.n) O with
    | some o => simp only; rw [updL_snoc, sc_fold_snoc]; rfl
    | none => simp only; rw [updL_snoc, sc_fold_snoc]; rfl
  rw [hr]
  exact (h3.mono (fun b hb => by simp [hb])).snoc (h4.step h5 hZ rfl)
theorem refOf_rc (t : Tr) (O : List (Qn × Int)) (Y : List Ans) : Y.Pairwise (fun x y => qlt x.q y.q) → RC t Y (rawOf t O Y) (refOf t O Y) := by
  induction Y using snoc_ind with
  | h0 => exact fun _ => ⟨rfl, fun k h1 => by simp [refOf] at h1⟩
  | hs Y a ih =>
    intro hs
    obtain ⟨h1, _, h2⟩ := List.pairwise_append.1 hs
    have e1 : rawOf t O (Y ++ [a]) = rawC t O (rawOf t O Y) a := by unfold rawOf; rw [List.foldl_append]; rfl
    have e2 : refOf t O (Y ++ [a]) = refC t O (refOf t O Y) a := by unfold refOf; rw [List.foldl_append]; rfl
    rw [e1, e2]
    exact (ih h1).step (fun b hb e => by have := h2 b hb a (by simp); rw [e] at this; exact qlt_irrefl _ this)
/-- The specification's claims are the claims. -/
theorem refOf_claims {t : Tr} {Y : List Ans} (h : Y.Pairwise (fun x y => qlt x.q y.q)) : ClaimsP t Y (refOf t (outsOf Y) Y) := by
  have hr := refOf_rc t (outsOf Y) Y h
  refine ⟨hr.len, fun k h1 h2 => ?_⟩
  have := hr.at' k h1 h2
  exact ⟨this.m, this.ep, fun j hj => ⟨this.perm j hj, (this.srt j hj).imp (fun h => by unfold tlt at *; omega)⟩⟩
/-- What a scan for an answer finds. -/
def luL (Y : List Ans) (q : Qn) : Int := ((Y.find? (fun a => decide (a.q = q))).map Ans.lu).getD 0
end Go.Proofs.YtiplgpefapeapaaGreat

namespace Go.Proofs.YtiplgpefapeapaaGreat
open Go.RowKit

/-- A certificate. -/
structure Ct where
  im : Int
  is : Int
  st : T3
  an : List Ans
  cl : List PCl
def PCl.size (p : PCl) : Nat := p.st.length + p.sc.length + p.ch.length
def Ct.size (c : Ct) : Nat := c.an.length + c.cl.length + (c.an.map (fun a => a.ins.length)).sum + (c.cl.map PCl.size).sum
/-- A trace that has just these answers. -/
def trOf (Y : List Ans) : Tr := { Tr.new 0 0 (0, 0, 0) with qs := Y.map (fun a => (a.q, some a)) }
theorem trOf_rec (Y : List Ans) : (trOf Y).rec' = Y.map (fun a => (a.q, a)) := by
  show recOf (Y.map (fun a => (a.q, some a))) = _
  induction Y with
  | nil => rfl
  | cons a Y ih => rw [List.map_cons, List.map_cons, recOf_some, ih]
abbrev SrtA (Y : List Ans) : Prop := Y.Pairwise (fun x y => qlt x.q y.q)
/-- The claims that follow from answers. -/
def clY (Y : List Ans) : List PCl := refOf (trOf Y) (outsOf Y) Y
theorem clY_eq {Y : List Ans} {P : List PCl} (h : SrtA Y) (hP : ClaimsP (trOf Y) Y P) : P = clY Y := ClaimsP.uniq h hP (refOf_claims h)
theorem clY_of {Y : List Ans} {P : List PCl} (hs : SrtA Y) (h1 : P.length = (msOf Y).length) (h2 : ∀ (k : Nat) (h1 : k < P.length) (h2 : k < (msOf Y).length), ClmAt (trOf Y) Y P[k] (msOf Y)[k]) : P = clY Y := clY_eq hs (ClaimsP.of_at hs h1 h2)
theorem luOf_trOf (Y : List Ans) (q : Qn) : luOf (trOf Y) q = luL Y q := by
  unfold luOf luL
  rw [trOf_rec]
  congr 2
  induction Y with
  | nil => rfl
  | cons a Y ih =>
    rw [List.map_cons, List.find?_cons]
    by_cases e : a.q = q
    · subst e; simp [MapS.get]
    · have e' : ¬ q = a.q := fun h => e h.symm
      simp only [MapS.get, e, decide_false]
      first
        | rw [if_neg e]; exact ih
        | rw [if_neg e']; exact ih
        | exact ih
/-! ### well-formed -/
def mach (n : Int) : Bool := decide (1 ≤ n) && decide (n ≤ 8)
def insOk (x : T3) : Bool := mach x.1 && decide (0 ≤ x.2.2)
def ansOk (a : Ans) : Bool := mach a.m && mach a.ow && decide (0 ≤ a.ep) && decide (0 ≤ a.lu) && a.ins.all insOk
def incA : List Ans → Bool
  | a :: b :: r => decide (qlt a.q b.q) && incA (b :: r)
  | _ => true
def incC : List PCl → Bool
  | a :: b :: r => decide (a.m < b.m) && incC (b :: r)
  | _ => true
theorem incA_iff : ∀ {Y : List Ans}, incA Y = true ↔ ∀ j (h : j + 1 < Y.length), qlt (Y[j]'(by omega)).q Y[j + 1].q
  | [] => by simp [incA]
  | [a] => by simp [incA]
  | a :: b :: r => by
    rw [incA, Bool.and_eq_true, decide_eq_true_iff, incA_iff (Y := b :: r)]
    constructor
    · rintro ⟨h1, h2⟩ j hj
      cases j with
      | zero => exact h1
      | succ j => exact h2 j (by simpa using hj)
    · intro h
      exact ⟨h 0 (by simp), fun j hj => h (j + 1) (by simpa using hj)⟩
theorem incC_iff : ∀ {P : List PCl}, incC P = true ↔ ∀ j (h : j + 1 < P.length), (P[j]'(by omega)).m < P[j + 1].m
  | [] => by simp [incC]
  | [a] => by simp [incC]
  | a :: b :: r => by
    rw [incC, Bool.and_eq_true, decide_eq_true_iff, incC_iff (P := b :: r)]
    constructor
    · rintro ⟨h1, h2⟩ j hj
      cases j with
      | zero => exact h1
      | succ j => exact h2 j (by simpa using hj)
    · intro h
      exact ⟨h 0 (by simp), fun j hj => h (j + 1) (by simpa using hj)⟩
theorem incA_srt : ∀ {Y : List Ans}, incA Y = true → SrtA Y
  | [], _ => List.Pairwise.nil
  | [a], _ => by simp
  | a :: b :: r, h => by
    rw [incA, Bool.and_eq_true, decide_eq_true_iff] at h
    have ih := incA_srt h.2
    refine List.pairwise_cons.2 ⟨fun x hx => ?_, ih⟩
    rcases List.mem_cons.1 hx with rfl | hx
    · exact h.1
    · exact qlt_trans h.1 ((List.pairwise_cons.1 ih).1 x hx)
def wf (c : Ct) : Bool := mach c.im && decide (1 ≤ c.is) && mach c.st.1 && incA c.an && incC c.cl && c.an.all ansOk
/-! ### good -/
def kq (c : Ct) : Qn := (c.im, c.st.1, c.st.2.1)
def hasA (Y : List Ans) (q : Qn) : Bool := Y.any (fun a => decide (a.q = q))
def epB (Y : List Ans) : Bool := Y.all (fun a => Y.all (fun b => decide (a.m = b.m → a.ep = b.ep)))
def insB (Y : List Ans) (m : Int) (x : T3) : Bool := decide (MapS.get (m, x.1, x.2.1) (outsOf Y) = some x.2.2) && hasA Y (x.1, m, x.2.1)
def ansB (Y : List Ans) (a : Ans) : Bool := a.kn && !a.rt && a.ins.all (insB Y a.m)
def goodB (c : Ct) : Bool := hasA c.an (kq c) && epB c.an && c.an.all (ansB c.an) && decide (c.cl = clY c.an)
/-- What the check says: 1 for a certificate that is not well-formed, 15 for one that is rejected. -/
def chk (c : Ct) : Int := if wf c = true then (if goodB c = true then 0 else 15) else 1
theorem hasA_iff {Y : List Ans} {q : Qn} : hasA Y q = true ↔ ∃ a ∈ Y, a.q = q := by unfold hasA; simp
theorem epB_iff {Y : List Ans} : epB Y = true ↔ ∀ a ∈ Y, ∀ b ∈ Y, a.m = b.m → a.ep = b.ep := by unfold epB; simp only [List.all_eq_true, decide_eq_true_eq]
/-! ### the specification -/
/-! #### the machines -/
/-! #### the claims -/
theorem scOf_nd (t : Tr) (Y : List Ans) (m : Int) : (scOf t Y m).Nodup := by
  unfold scOf
  suffices h : ∀ (Y : List Ans) (l : List T3), l.Nodup → (Y.foldl (scA t m) l).Nodup from h Y [] List.nodup_nil
  intro Y
  induction Y with
  | nil => exact fun l h => h
  | cons a Y ih =>
    refine fun l h => ih _ ?_
    unfold scA
    split
    · generalize a.ins = xs
      induction xs generalizing l with
      | nil => exact h
      | cons x r ih2 =>
        refine ih2 _ ?_
        unfold scS addN
        split
        · exact h
        · rename_i hn
          rw [List.nodup_append]
          exact ⟨h, by simp, fun a ha b hb e => by simp at hb; subst hb; subst e; exact hn ha⟩
    · exact h
end Go.Proofs.YtiplgpefapeapaaGreat
