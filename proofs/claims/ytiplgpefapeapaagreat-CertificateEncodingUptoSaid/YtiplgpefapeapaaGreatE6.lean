/- Texts that the laws lean on, in the order in which they build. Package certificate: found, answers. Package certificate: answers. Claims in boxes of their own, each with its lists of needs. DERIVED: THE SHELF's CONTRACTS AT THIS DUMP, IN PLAIN WORDS (tools/lay-plain.mjs out of 'YtiplgpefapeapaaGreatIterSrc36.lean', which tools/lay-shelf.mjs wrote): THE SAME DECLARATIONS UNDER THE SAME NAMES: 'import', 'namespace', 'open', 'def', 'theorem' AND NOTHING ELSE: no command of the shelf's: FOR A HAND-IN. Each laying: the table of numbers ('.._ren') and one theorem, a field a fact of the dump's own or the kernel's comparison; each contract: ONE APPLICATION. The sorted keys of the map by machine: maps.Keys, slices.Sorted. What the walk of certificate.claims leans on. -/
import Derived.Test.YtiplgpefapeapaaGreatE5
import Derived.Test.YtiplgpefapeapaaGreatProg
import Derived.Shelf.SlIterI.Sorted
import Derived.Shelf.SlIterI.Collect
import Derived.Shelf.SlIterI.Keys
import Derived.Shelf.SortM.Plain
import Derived.Shelf.SortM.SortNone
import Derived.Ground.GgzProg
import Derived.Ground.SlgmProg
import Derived.Lib.SlKeysI
set_option linter.unusedVariables false
set_option linter.unusedSimpArgs false
namespace Go.Proofs.YtiplgpefapeapaaGreat
open Go.RowKit

def FndPost (w : World) (Y : List Ans) (e : Ending) (w' : World) : Prop := ∃ b, e = .returned (.map (some b)) ∧ MapS.M ktK zV w' b (outsOf Y) ∧ w.heap.size ≤ b ∧ Keeps [] w w'
set_option maxRecDepth 100000 in
set_option maxHeartbeats 8000000 in
theorem found_c (w : World) (x : CtV) (c : Ct) (h : CtW w x c) (hfit : ∀ a ∈ c.an, a.Fit) (hf : c.Few) :
    Calls Tryz.prog 72 #[ctV x] w (FndPost w c.an) := by
  have hmm := @run_makeMap Tryz.prog
  have han := h.an
  obtain ⟨x0, x1, x2, x3, x4, ⟨x5, x6, x7⟩, ⟨x8, x9, x10⟩⟩ := x
  simp only [slv] at han
  obtain ⟨_, _, e1, hla, hca⟩ := han.form
  simp only [Value.slice.injEq] at e1
  obtain ⟨-, e1, -⟩ := e1
  rw [← e1] at hla
  have hx6m : x6 ≤ 9223372036854775807 := by unfold maxLen at hca; omega
  have hA := heap_alloc_new w (.cells #[.int .i64 x0, .int .i64 x1, .int .i64 x2, .int .u64 x3, .int .i64 x4, .slice x5 x6 x7, .slice x8 x9 x10] tCt)
  have hkA := (Keeps.refl [] w).alloc (.cells #[.int .i64 x0, .int .i64 x1, .int .i64 x2, .int .u64 x3, .int .i64 x4, .slice x5 x6 x7, .slice x8 x9 x10] tCt)
  obtain ⟨W, hW⟩ : ∃ W, w.alloc (.cells #[.int .i64 x0, .int .i64 x1, .int .i64 x2, .int .u64 x3, .int .i64 x4, .slice x5 x6 x7, .slice x8 x9 x10] tCt) = W := ⟨_, rfl⟩
  obtain ⟨B, hB⟩ : ∃ B, w.heap.size = B := ⟨_, rfl⟩
  rw [hW] at hA hkA
  rw [hB] at hA
  have hWs := hkA.size
  obtain ⟨Y, hY⟩ : ∃ Y, c.an = Y := ⟨_, rfl⟩
  have hfi : ∀ a ∈ Y, a.ins.length ≤ 1000 := by rw [← hY]; exact hf.ins
  have hfn := hf.an
  rw [hY] at han e1 hfit hfn ⊢
  replace hfit := Lib.hid hfit
  replace hfi := Lib.hid hfi
  replace han := Lib.hid han
  replace hkA := Lib.hid hkA
  replace hW := Lib.hid hW
  replace hB := Lib.hid hB
  replace e1 := Lib.hid e1
  replace hA := Lib.hid hA
  replace hfn := Lib.hid hfn
  clear h hY hf
  simp only [ctV, slv]
  go_enter Tryz.func72, Tryz.ntmps72
  go_upto_region 1 with fail
  rw [hW.out, hB.out]
  have hM := MapS.M.made ktK (vf := zV) W
  have hkM : Keeps [] W (W.alloc (.map #[] 0)) := (Keeps.refl _ _).alloc _
  have hbE := heap_alloc_new W (.map #[] 0)
  have hk1 := hkA.out.trans hkM
  have hA1 := (hkM.block _ (lt_of_blk hA.out) (by simp)).trans hA.out
  replace hM := Lib.hid hM
  replace hbE := Lib.hid hbE
  replace hk1 := Lib.hid hk1
  replace hA1 := Lib.hid hA1
  clear hkM
  go_upto_region 2 with fail
  generalize (W.alloc (.map #[] 0)) = w2 at *
  obtain ⟨bE, hbEe⟩ : ∃ b, W.heap.size = b := ⟨_, rfl⟩
  rw [hbEe] at hM hbE hWs ⊢
  clear hmm hbEe
  obtain ⟨i0, i1, i2, i3, i4, i5, i6, if', il⟩ := cl7 hA1.out
  go_wp2
  go_loopw [15] (fun i wr => ∃ k : Nat, i = .int .i64 k ∧ k ≤ x6 ∧ Hid (MapS.M ktK zV wr bE ((Y.take k).foldl outsA [])) ∧ Hid (Keeps [] w wr) ∧ Hid (((Y.take k).foldl outsA []).length ≤ k * 1000)) (fun i _ => x6 - (intOf i).toNat)
  case atStart => exact ⟨0, rfl, by omega, hM, hk1, Lib.hid (by simp)⟩
  case round =>
    clear hM i0 i1 i2 i3 i4 i5 i6 if' il
    obtain ⟨k, rfl, hk, hMr, hkr, hln⟩ := hrel
    by_cases hlt : k < x6
    · have hlt2 : (k : Int) < x6 := by omega
      have hkY : k < Y.length := by rw [← e1.out]; exact hlt
      obtain ⟨g, o, c', y, hv, hy, he⟩ := (han.out.keeps hkr.out).elem hkY
      rw [← e1.out] at hv
      cases hv
      have hst : (Y.take (k + 1)).foldl outsA [] = outsA ((Y.take k).foldl outsA []) Y[k] := foldl_succ _ _ _ _ hkY
      have hao := hfit.out _ (List.getElem_mem hkY)
      have hai := hfi.out _ (List.getElem_mem hkY)
      obtain ⟨a, ha⟩ : ∃ a, Y[k] = a := ⟨_, rfl⟩
      rw [ha] at hy hst hao hai
      obtain ⟨ai, aic, ev, hl1, hl2, _⟩ := hy.ins.form
      have hins := hy.ins
      obtain ⟨y0, y1, y2, y3, y4, y5, y6, y7, y8, y9⟩ := y
      have q0 := hy.m
      simp only [AnV.v] at ev hins
      simp only at q0
      subst q0
      simp only [Value.slice.injEq] at ev
      obtain ⟨-, ev, -⟩ := ev
      rw [← ev] at hai
      have g0 := he 0 _ rfl
      have g1 := he 1 _ rfl
      have g2 := he 2 _ rfl
      have g3 := he 3 _ rfl
      have g4 := he 4 _ rfl
      have g5 := he 5 _ rfl
      have g6 := he 6 _ rfl
      have g7 := he 7 _ rfl
      simp only [AnV.v, Nat.add_zero] at g0 g1 g2 g3 g4 g5 g6 g7
      have hbA := heap_alloc_new wr (.cells #[.int .i64 a.m, .int .i64 y1, .int .u64 y2, .int .i64 y3, .bool y4, .bool y5, .int .i64 y6, .slice y7 y8 y9] tA)
      have hkn := (Keeps.refl [] wr).alloc (.cells #[.int .i64 a.m, .int .i64 y1, .int .u64 y2, .int .i64 y3, .bool y4, .bool y5, .int .i64 y6, .slice y7 y8 y9] tA)
      have hkrA := Lib.hid (hkr.out.trans hkn)
      have hMA := hMr.out.keeps ktK hkn
      have hbEX : bE < wr.heap.size := hMr.out.lt
      have hinsn := Lib.hid (hins.keeps hkn)
      obtain ⟨acc, hacc⟩ : ∃ acc, (Y.take k).foldl outsA [] = acc := ⟨_, rfl⟩
      rw [hacc] at hMA hln hst
      replace hacc := Lib.hid hacc
      replace hMA := Lib.hid hMA
      replace hst := Lib.hid hst
      replace hao := Lib.hid hao
      replace ev := Lib.hid ev
      replace hbA := Lib.hid hbA
      replace ha := Lib.hid ha
      clear he hy hins hkn hl1 hl2 hkr hMr
      go_wp2
      generalize (wr.alloc (.cells #[.int .i64 a.m, .int .i64 y1, .int .u64 y2, .int .i64 y3, .bool y4, .bool y5, .int .i64 y6, .slice y7 y8 y9] tA)) = WA at *
      obtain ⟨XA, hXA⟩ : ∃ X, wr.heap.size = X := ⟨_, rfl⟩
      rw [hXA] at hbA hbEX ⊢
      replace hXA := Lib.hid hXA
      clear g0 g1 g2 g3 g4 g5 g6 g7
      go_loopw [22] (fun i wi => ∃ j : Nat, i = .int .i64 j ∧ j ≤ y8 ∧ Hid (MapS.M ktK zV wi bE ((a.ins.take j).foldl (outA a.m) acc)) ∧ Hid (Keeps [bE] WA wi)) (fun i _ => y8 - (intOf i).toNat)
      case atStart => exact ⟨0, rfl, by omega, hMA, Lib.hid (Keeps.refl _ _)⟩
      case round =>
        obtain ⟨j, rfl, hj, hMi, hki⟩ := hrel
        have hkwi : Keeps [] w wr := hkrA.out.fresh hki.out (fun b hb => by simp at hb; subst hb; exact .inr (by omega))
        by_cases hltj : j < y8
        · have hlt2j : (j : Int) < y8 := by omega
          have hja : j < a.ins.length := by rw [← ev.out]; exact hltj
          have hxo := hao.out.ins _ (List.getElem_mem hja)
          have hst2 : (a.ins.take (j + 1)).foldl (outA a.m) acc = outA a.m ((a.ins.take j).foldl (outA a.m) acc) a.ins[j] := foldl_succ _ _ _ _ hja
          have hkiw : ∀ (i : Nat) (u : Value), i < w.heap.size → True := fun _ _ _ => trivial
          obtain ⟨g2, o2, c2, hv2, he2⟩ := (hinsn.out.keepE hki.out (fun b hb hne e => by
            simp at hb
            subst hb
            obtain ⟨es, ec, hmap⟩ := hMA.out.isMap
            obtain ⟨gg, oo, cc, hvv, hee⟩ := hinsn.out.elem (k := 0) (by cases hq : a.ins with | nil => exact absurd hq hne | cons _ _ => simp)
            rw [hvv] at e
            simp [Value.ownBlock] at e
            subst e
            have := hee 0 _ rfl
            simp [World.cell?, hmap] at this)).elem hja
          rw [← ev.out] at hv2
          cases hv2
          obtain ⟨y, hye⟩ : ∃ y, a.ins[j] = y := ⟨_, rfl⟩
          rw [hye] at he2 hxo hst2
          obtain ⟨z0, z1, z2⟩ := y
          have t0 := he2 0 _ rfl
          have t1 := he2 1 _ rfl
          have t2 := he2 2 _ rfl
          simp only [shT, Nat.add_zero] at t0 t1 t2
          have hbi := (hki.out.block XA (lt_of_blk hbA.out) (by simp; omega)).trans hbA.out
          have hqk : qOk (a.m, z0, z1) := ⟨hao.out.q.1, hxo.1, hxo.2.1⟩
          obtain ⟨aj, haj⟩ : ∃ aj, (a.ins.take j).foldl (outA a.m) acc = aj := ⟨_, rfl⟩
          have hajl : aj.length < maxLen := by
            rw [← haj]
            have h1 := out_fold_len a.m (a.ins.take j) acc
            have h2 := hln.out
            have h3 : (a.ins.take j).length ≤ a.ins.length := by simp; omega
            have h4 := ev.out
            have h5 : k * 1000 ≤ 1000 * 1000 := Nat.mul_le_mul_right _ (by have := hfn.out; omega)
            unfold maxLen; omega
          rw [haj] at hMi hst2
          have hkI := ((Keeps.refl [] wr).alloc (.cells #[.int .i64 z0, .int .u64 z1, .int .i64 z2] tI)).alloc (.cells #[.int .i64 a.m, .int .i64 z0, .int .u64 z1] tK)
          have hMj := hMi.out.keeps ktK hkI
          have hkj : Keeps [bE] WA _ := hki.out.trans (hkI.of_nil)
          have hlk := MapS.M.look_ok ktK Tryz.underlying117 (zV 0) zeroZ hMj hqk
          obtain ⟨ov, hov⟩ : ∃ ov : Int, ((MapS.get (a.m, z0, z1) aj).map zV).getD (zV 0) = zV ov := by
            cases MapS.get (a.m, z0, z1) aj with
            | none => exact ⟨_, rfl⟩
            | some u => exact ⟨u, rfl⟩
          obtain ⟨ob, hob⟩ : ∃ ob, (MapS.get (a.m, z0, z1) aj).isSome = ob := ⟨_, rfl⟩
          rw [hov, hob] at hlk
          simp only [ktK, qV, zV] at hlk
          obtain ⟨b0, _, _, _, _, _, _, _, bf, bl⟩ := cl8 hbi
          have hI := heap_alloc_new wr (.cells #[.int .i64 z0, .int .u64 z1, .int .i64 z2] tI)
          have hIz : (wr.alloc (.cells #[.int .i64 z0, .int .u64 z1, .int .i64 z2] tI)).heap.size = wr.heap.size + 1 := by simp
          clear hov he2 hye hkiw
          cases ob with
          | true =>
            have hsame : outA a.m aj (z0, z1, z2) = aj := if_pos hob
            rw [hsame] at hst2
            rw [← hst2] at hMj
            replace hst2 := Lib.hid hst2
            replace hMj := Lib.hid hMj
            replace hkj := Lib.hid hkj
            replace hob := Lib.hid hob
            replace haj := Lib.hid haj
            replace hqk := Lib.hid hqk
            replace hkwi := Lib.hid hkwi
            clear hsame hI hIz hkI
            go_wp2
            go_roundw
            case rel => exact ⟨j + 1, rfl, by omega, hMj, hkj⟩
            case measure => simp [intOf]; omega
          | false =>
            have hnew : outA a.m aj (z0, z1, z2) = aj ++ [((a.m, z0, z1), z2)] := if_neg (by simp [hob])
            rw [hnew] at hst2
            have hget : MapS.get (a.m, z0, z1) aj = none := by simpa using hob
            obtain ⟨wk, hrun, hMk, hkk⟩ := MapS.M.putNew ktK Tryz.underlying117 hMj hqk hget hajl z2
            rw [← hst2] at hMk
            have hkw := hkj.trans hkk
            simp only [ktK, qV, zV] at hrun
            replace hst2 := Lib.hid hst2
            replace hMk := Lib.hid hMk
            replace hkw := Lib.hid hkw
            replace hob := Lib.hid hob
            replace haj := Lib.hid haj
            replace hqk := Lib.hid hqk
            replace hkwi := Lib.hid hkwi
            clear hnew hMj hkj hkk hget hI hIz hkI
            go_wp2
            go_roundw
            case rel => exact ⟨j + 1, rfl, by omega, hMk, hkw⟩
            case measure => simp [intOf]; omega
        · have hlt2j : ¬ ((j : Int) < y8) := by omega
          have hjx : j = a.ins.length := by have := ev.out; omega
          have hfin : (a.ins.take j).foldl (outA a.m) acc = outsA acc a := by rw [hjx, foldl_all]; rfl
          rw [hfin, ← hst.out] at hMi
          have hlf : ((Y.take (k + 1)).foldl outsA []).length ≤ (k + 1) * 1000 := by
            rw [hst.out]
            have h1 := out_fold_len a.m a.ins acc
            have h2 := hln.out
            have h4 := ev.out
            unfold outsA
            rw [Nat.add_mul]
            omega
          replace hlf := Lib.hid hlf
          replace hkwi := Lib.hid hkwi
          replace hjx := Lib.hid hjx
          clear hfin
          go_wp2
          go_roundw
          case rel => exact ⟨k + 1, rfl, by omega, hMi, hkwi, hlf⟩
          case measure => simp [intOf]; omega
    · have hlt2 : ¬ ((k : Int) < x6) := by omega
      have hkN : k = Y.length := by have := e1.out; omega
      have hO : (Y.take k).foldl outsA [] = outsOf Y := by rw [hkN, foldl_all]; rfl
      rw [hO] at hMr
      replace hkN := Lib.hid hkN
      replace hO := Lib.hid hO
      go_wp2
      go_ret
      exact ⟨bE, rfl, hMr.out, by have := hB.out; omega, hkr.out⟩
end Go.Proofs.YtiplgpefapeapaaGreat

namespace Go.Proofs.YtiplgpefapeapaaGreat
open Go.RowKit

/-- The map of the answers: their questions in order, and what they say of the last use. -/
structure AnsM (R : List (Qn × AnV)) (Y : List Ans) : Prop where
  len : R.length = Y.length
  q : ∀ k (h1 : k < R.length) (h2 : k < Y.length), R[k].1 = Y[k].q
  lu : ∀ k (h1 : k < R.length) (h2 : k < Y.length), R[k].2.lu = Y[k].lu
theorem AnsM.snoc {R : List (Qn × AnV)} {Y : List Ans} (h : AnsM R Y) {x : AnV} {a : Ans} (hl : x.lu = a.lu) : AnsM (R ++ [(a.q, x)]) (Y ++ [a]) := by
  have hlen := h.len
  refine ⟨by simp [hlen], fun k h1 h2 => ?_, fun k h1 h2 => ?_⟩
  · by_cases e : k < R.length
    · rw [List.getElem_append_left e, List.getElem_append_left (by omega)]
      exact h.q k e (by omega)
    · have ek : k = R.length := by simp at h1; omega
      subst ek
      simp [List.getElem_append, hlen]
  · by_cases e : k < R.length
    · rw [List.getElem_append_left e, List.getElem_append_left (by omega)]
      exact h.lu k e (by omega)
    · have ek : k = R.length := by simp at h1; omega
      subst ek
      simp [List.getElem_append, hlen, hl]
theorem AnsM.none {R : List (Qn × AnV)} {Y : List Ans} (h : AnsM R Y) {q : Qn} (hq : ∀ a ∈ Y, a.q ≠ q) : MapS.get q R = none := MapS.get_none.2 (fun p hp e => by
  obtain ⟨k, hk, rfl⟩ := List.getElem_of_mem hp
  have hk2 : k < Y.length := by rw [← h.len]; exact hk
  exact hq _ (List.getElem_mem hk2) ((h.q k hk hk2).symm.trans e))
theorem AnsM.get {R : List (Qn × AnV)} {Y : List Ans} (h : AnsM R Y) (hs : SrtA Y) (q : Qn) : (MapS.get q R).isSome = hasA Y q ∧ ((MapS.get q R).map AnV.lu).getD 0 = luL Y q := by
  by_cases hq : ∃ a ∈ Y, a.q = q
  · obtain ⟨a, ha, hqa⟩ := hq
    obtain ⟨k, hk, rfl⟩ := List.getElem_of_mem ha
    have hk2 : k < R.length := by rw [h.len]; exact hk
    have hnd : MapS.ND R := by
      unfold MapS.ND
      rw [List.Nodup, List.pairwise_iff_getElem]
      intro i j hi hj hij
      simp only [List.length_map] at hi hj
      simp only [List.getElem_map]
      rw [h.q i hi (by rw [← h.len]; exact hi), h.q j hj (by rw [← h.len]; exact hj)]
      intro e
      have := List.pairwise_iff_getElem.1 hs i j (by rw [← h.len]; exact hi) (by rw [← h.len]; exact hj) hij
      rw [e] at this
      exact qlt_irrefl _ this
    have hg : MapS.get q R = some R[k].2 := (MapS.get_iff hnd).2 (by
      have := List.getElem_mem hk2
      have e := h.q k hk2 hk
      rw [hqa] at e
      rw [← e]
      exact this)
    rw [hg]
    refine ⟨(hasA_iff.2 ⟨_, ha, hqa⟩).symm, ?_⟩
    simp only [Option.map_some, Option.getD_some]
    rw [h.lu k hk2 hk]
    exact (luL_at hk (fun j hj hjk e => by
      have := List.pairwise_iff_getElem.1 hs j k hj hk hjk
      rw [e, hqa] at this
      exact qlt_irrefl _ this) hqa).symm
  · have hn : ∀ a ∈ Y, a.q ≠ q := fun a ha e => hq ⟨a, ha, e⟩
    rw [h.none hn]
    refine ⟨?_, ?_⟩
    · cases hh : hasA Y q with
      | false => rfl
      | true => exact absurd (hasA_iff.1 hh) hq
    · exact (luL_no (fun j hj => hn _ (List.getElem_mem hj))).symm
def AnsMPost (w : World) (Y : List Ans) (e : Ending) (w' : World) : Prop := ∃ b R, e = .returned (.map (some b)) ∧ MapS.M ktS aV w' b R ∧ AnsM R Y ∧ w.heap.size ≤ b ∧ Keeps [] w w'
set_option maxRecDepth 100000 in
set_option maxHeartbeats 8000000 in
theorem answersM_c (w : World) (x : CtV) (c : Ct) (h : CtW w x c) (hfit : ∀ a ∈ c.an, a.Fit) (hf : c.Few) (hs : SrtA c.an) :
    Calls Tryz.prog 71 #[ctV x] w (AnsMPost w c.an) := by
  have hmm := @run_makeMap Tryz.prog
  have han := h.an
  obtain ⟨x0, x1, x2, x3, x4, ⟨x5, x6, x7⟩, ⟨x8, x9, x10⟩⟩ := x
  simp only [slv] at han
  obtain ⟨_, _, e1, hla, hca⟩ := han.form
  simp only [Value.slice.injEq] at e1
  obtain ⟨-, e1, -⟩ := e1
  rw [← e1] at hla
  have hx6m : x6 ≤ 9223372036854775807 := by unfold maxLen at hca; omega
  have hA := heap_alloc_new w (.cells #[.int .i64 x0, .int .i64 x1, .int .i64 x2, .int .u64 x3, .int .i64 x4, .slice x5 x6 x7, .slice x8 x9 x10] tCt)
  have hkA := (Keeps.refl [] w).alloc (.cells #[.int .i64 x0, .int .i64 x1, .int .i64 x2, .int .u64 x3, .int .i64 x4, .slice x5 x6 x7, .slice x8 x9 x10] tCt)
  obtain ⟨W, hW⟩ : ∃ W, w.alloc (.cells #[.int .i64 x0, .int .i64 x1, .int .i64 x2, .int .u64 x3, .int .i64 x4, .slice x5 x6 x7, .slice x8 x9 x10] tCt) = W := ⟨_, rfl⟩
  obtain ⟨B, hB⟩ : ∃ B, w.heap.size = B := ⟨_, rfl⟩
  rw [hW] at hA hkA
  rw [hB] at hA
  have hWs := hkA.size
  obtain ⟨Y, hY⟩ : ∃ Y, c.an = Y := ⟨_, rfl⟩
  have hfn := hf.an
  rw [hY] at han e1 hfit hfn hs ⊢
  replace hfit := Lib.hid hfit
  replace han := Lib.hid han
  replace hkA := Lib.hid hkA
  replace hW := Lib.hid hW
  replace hB := Lib.hid hB
  replace e1 := Lib.hid e1
  replace hA := Lib.hid hA
  replace hfn := Lib.hid hfn
  replace hs := Lib.hid hs
  clear h hY hf
  simp only [ctV, slv]
  go_enter Tryz.func71, Tryz.ntmps71
  go_upto_region 1 with fail
  rw [hW.out, hB.out]
  have hM := MapS.M.made ktS (vf := aV) W
  have hkM : Keeps [] W (W.alloc (.map #[] 0)) := (Keeps.refl _ _).alloc _
  have hk1 := hkA.out.trans hkM
  have hA1 := (hkM.block _ (lt_of_blk hA.out) (by simp)).trans hA.out
  replace hM := Lib.hid hM
  replace hk1 := Lib.hid hk1
  replace hA1 := Lib.hid hA1
  clear hkM
  go_upto_region 2 with fail
  generalize (W.alloc (.map #[] 0)) = w2 at *
  obtain ⟨bE, hbEe⟩ : ∃ b, W.heap.size = b := ⟨_, rfl⟩
  rw [hbEe] at hM hWs ⊢
  clear hmm hbEe
  obtain ⟨i0, i1, i2, i3, i4, i5, i6, if', il⟩ := cl7 hA1.out
  go_wp2
  go_loopw [10] (fun i wr => ∃ (k : Nat) (R : List (Qn × AnV)), i = .int .i64 k ∧ k ≤ x6 ∧ Hid (MapS.M ktS aV wr bE R) ∧ Hid (AnsM R (Y.take k)) ∧ Hid (Keeps [] w wr)) (fun i _ => x6 - (intOf i).toNat)
  case atStart => exact ⟨0, [], rfl, by omega, hM, Lib.hid ⟨rfl, fun k h1 => by simp at h1, fun k h1 => by simp at h1⟩, hk1⟩
  case round =>
    clear hM i0 i1 i2 i3 i4 i5 i6 if' il
    obtain ⟨k, R, rfl, hk, hMr, hR, hkr⟩ := hrel
    by_cases hlt : k < x6
    · have hlt2 : (k : Int) < x6 := by omega
      have hkY : k < Y.length := by rw [← e1.out]; exact hlt
      obtain ⟨g, o, c', y, hv, hy, he⟩ := (han.out.keeps hkr.out).elem hkY
      rw [← e1.out] at hv
      cases hv
      have hao := hfit.out _ (List.getElem_mem hkY)
      have hRl : R.length < maxLen := by
        have h1 := hR.out.len
        have h2 := hfn.out
        rw [List.length_take] at h1
        unfold maxLen
        omega
      have hnone : MapS.get Y[k].q R = none := hR.out.none (fun a ha e => by
        obtain ⟨j, hj, rfl⟩ := List.getElem_of_mem ha
        rw [List.length_take] at hj
        rw [List.getElem_take] at e
        have := List.pairwise_iff_getElem.1 hs.out j k (by omega) hkY (by omega)
        rw [e] at this
        exact qlt_irrefl _ this)
      have hRn : AnsM (R ++ [(Y[k].q, y)]) (Y.take (k + 1)) := by
        rw [List.take_succ_eq_append_getElem hkY]
        exact hR.out.snoc hy.lu
      have hq0 : Y[k].q = (y.m, y.ow, y.n) := by unfold Ans.q; rw [hy.m, hy.ow, hy.n]
      have hqk := hao.q
      rw [hq0] at hRn hnone hqk
      obtain ⟨y0, y1, y2, y3, y4, y5, y6, y7, y8, y9⟩ := y
      simp only at hRn hnone hqk
      have g0 := he 0 _ rfl
      have g1 := he 1 _ rfl
      have g2 := he 2 _ rfl
      have g3 := he 3 _ rfl
      have g4 := he 4 _ rfl
      have g5 := he 5 _ rfl
      have g6 := he 6 _ rfl
      have g7 := he 7 _ rfl
      simp only [AnV.v, Nat.add_zero] at g0 g1 g2 g3 g4 g5 g6 g7
      have hkn := (Keeps.refl [] wr).alloc (.cells #[.int .i64 y0, .int .i64 y1, .int .u64 y2, .int .i64 y3, .bool y4, .bool y5, .int .i64 y6, .slice y7 y8 y9] tA)
      have hMA := hMr.out.keeps ktS hkn
      obtain ⟨wk, hrun, hMk, hkk⟩ := MapS.M.putNew ktS Tryz.underlying112 hMA hqk hnone hRl ⟨y0, y1, y2, y3, y4, y5, y6, y7, y8, y9⟩
      simp only [ktS, qV, aV, AnV.v] at hrun
      have hkf : Keeps [] w wk := (hkr.out.trans hkn).fresh hkk (fun b hb => by simp at hb; subst hb; have := hkA.out.size; exact .inr (by omega))
      replace hRn := Lib.hid hRn
      replace hMk := Lib.hid hMk
      replace hkf := Lib.hid hkf
      replace hqk := Lib.hid hqk
      replace hq0 := Lib.hid hq0
      clear he hy hkn hMA hkk hMr hR hnone hao hRl
      go_wp2
      go_roundw
      case rel => exact ⟨k + 1, _, rfl, by omega, hMk, hRn, hkf⟩
      case measure => simp [intOf]; omega
    · have hlt2 : ¬ ((k : Int) < x6) := by omega
      have hkN : k = Y.length := by have := e1.out; omega
      have hR2 : AnsM R Y := by have := hR.out; rw [hkN, List.take_length] at this; exact this
      replace hkN := Lib.hid hkN
      replace hR2 := Lib.hid hR2
      go_wp2
      go_ret
      exact ⟨bE, R, rfl, hMr.out, hR2.out, by have := hB.out; omega, hkr.out⟩
end Go.Proofs.YtiplgpefapeapaaGreat

namespace Go.Proofs.YtiplgpefapeapaaGreat
open Go.RowKit

theorem nd_inj {l : List Nat} (h : l.Nodup) {i j : Nat} (hi : i < l.length) (hj : j < l.length) (e : l[i] = l[j]) : i = j := by
  rcases Nat.lt_trichotomy i j with c | c | c
  · exact absurd e (List.pairwise_iff_getElem.1 h i j hi hj c)
  · exact c
  · exact absurd e.symm (List.pairwise_iff_getElem.1 h j i hj hi c)
abbrev bxC (p : PCl) (V : Nat → Nat → SlT) (k : Nat) : Obj := .cells #[.int .i64 p.m, .int .i64 p.ep, slv (V k 0), slv (V k 1), slv (V k 2)] tC (0, 0)
structure BX (w : World) (B : Nat) (bs : List Nat) (P : List PCl) (V : Nat → Nat → SlT) : Prop where
  len : bs.length = P.length
  b : ∀ k (hk : k < P.length) (hb : k < bs.length), B ≤ bs[k] ∧ w.heap[bs[k]]? = some (bxC P[k] V k)
  nd : bs.Nodup
  o : ∀ k j (hk : k < P.length), j < 3 → shT.O w B tN (slv (V k j)) (P[k].at j)
  d : ∀ k j k' j' b, k < P.length → j < 3 → k' < P.length → j' < 3 → (slv (V k j)).ownBlock = some b → (slv (V k' j')).ownBlock = some b → k = k' ∧ j = j'
namespace BX
variable {w w' : World} {B : Nat} {bs : List Nat} {P : List PCl} {V : Nat → Nat → SlT}
theorem nil (w : World) (B : Nat) (V : Nat → Nat → SlT) : BX w B [] [] V := ⟨rfl, fun k hk => by simp at hk, List.nodup_nil, fun k j hk => by simp at hk, fun k j k' j' b hk => by simp at hk⟩
theorem keeps (h : BX w B bs P V) (hk : Keeps [] w w') : BX w' B bs P V :=
  ⟨h.len, fun k h1 h2 => ⟨(h.b k h1 h2).1, (hk.block _ (lt_of_blk (h.b k h1 h2).2) (by simp)).trans (h.b k h1 h2).2⟩, h.nd, fun k j h1 h2 => (h.o k j h1 h2).keeps hk, h.d⟩
/-- A box is no list's block. -/
theorem ne (h : BX w B bs P V) {k j i b : Nat} (hk : k < P.length) (hj : j < 3) (hi : i < P.length) (hb : i < bs.length) (h1 : (slv (V k j)).ownBlock = some b) : bs[i] ≠ b := fun e => by
  obtain ⟨cs, h2⟩ := (h.o k j hk hj).tag b h1
  exact tag_ne h2 (h.b i hi hb).2 (by decide) e.symm
theorem keepS {S : List Nat} (h : BX w B bs P V) (hk : Keeps S w w') (h1 : ∀ k (hk : k < bs.length), bs[k] ∉ S) (h2 : ∀ k j b, k < P.length → j < 3 → (slv (V k j)).ownBlock = some b → b ∉ S) : BX w' B bs P V :=
  ⟨h.len, fun k g1 g2 => ⟨(h.b k g1 g2).1, (hk.block _ (lt_of_blk (h.b k g1 g2).2) (h1 k g2)).trans (h.b k g1 g2).2⟩, h.nd, fun k j g1 g2 => (h.o k j g1 g2).keepS hk (fun b hb e => h2 k j b g1 g2 e hb), h.d⟩
/-- All blocks have the tags of claims and of needs: a block with another tag may turn. -/
theorem keepT {S : List Nat} (h : BX w B bs P V) (hk : Keeps S w w') (hS : ∀ b ∈ S, ∀ cs, w.heap[b]? ≠ some (Obj.cells cs tC (0, 0)) ∧ w.heap[b]? ≠ some (Obj.cells cs tN (0, 0))) : BX w' B bs P V :=
  h.keepS hk (fun k g2 hm => (hS _ hm _).1 (h.b k (by have := h.len; omega) g2).2) (fun k j b g1 g2 e hm => by obtain ⟨cs, hc⟩ := (h.o k j g1 g2).tag b e; exact (hS b hm cs).2 hc)
theorem lt (h : BX w B bs P V) {k : Nat} (hk : k < bs.length) : bs[k] < w.heap.size := lt_of_blk (h.b k (by have := h.len; omega) hk).2
/-- A new box. -/
theorem push (h : BX w B bs P V) (hk : Keeps [] w w') (m ep : Int) {b : Nat} (hb : w.heap.size ≤ b) (hB : B ≤ b) (hc : w'.heap[b]? = some (.cells #[.int .i64 m, .int .i64 ep, .slice none 0 0, .slice none 0 0, .slice none 0 0] tC (0, 0))) :
    BX w' B (bs ++ [b]) (P ++ [⟨m, ep, [], [], []⟩]) (fun a c => if a = P.length then nilT else V a c) := by
  have hl := h.len
  refine ⟨by simp [hl], fun k h1 h2 => ?_, ?_, fun k j h1 h2 => ?_, fun k j k' j' c h1 h2 h3 h4 e1 e2 => ?_⟩
  · by_cases e : k = P.length
    · subst e
      have e2 : (bs ++ [b])[P.length] = b := by simp [List.getElem_append, hl]
      rw [e2]
      refine ⟨hB, ?_⟩
      rw [hc]
      simp [bxC]
    · have hlt : k < P.length := by simp at h1; omega
      have hlb : k < bs.length := by omega
      rw [List.getElem_append_left hlb]
      obtain ⟨g1, g2⟩ := h.b k hlt hlb
      refine ⟨g1, ?_⟩
      rw [hk.block _ (lt_of_blk g2) (by simp), g2]
      simp [bxC, List.getElem_append_left hlt, e]
  · rw [List.nodup_append]
    refine ⟨h.nd, by simp, fun a ha c hc e => ?_⟩
    simp only [List.mem_singleton] at hc
    subst hc
    subst e
    obtain ⟨i, hi, e⟩ := List.getElem_of_mem ha
    have := h.lt hi
    omega
  · by_cases e : k = P.length
    · subst e
      simp only [if_true]
      have : (P ++ [(⟨m, ep, [], [], []⟩ : PCl)])[P.length].at j = [] := by
        simp only [List.getElem_concat_length]
        unfold PCl.at; split <;> rfl
      rw [this]
      exact Sh.O.nil _ _ _ _
    · have hlt : k < P.length := by simp at h1; omega
      simp only [if_neg e, List.getElem_append_left hlt]
      exact (h.o k j hlt h2).keeps hk
  · have n1 : k ≠ P.length := fun e => by subst e; simp [slv, Value.ownBlock] at e1
    have n2 : k' ≠ P.length := fun e => by subst e; simp [slv, Value.ownBlock] at e2
    simp only [if_neg n1] at e1
    simp only [if_neg n2] at e2
    simp at h1 h3
    exact h.d k j k' j' c (by omega) h2 (by omega) h4 e1 e2
/-- One list has grown; the box's cell is stored. -/
theorem app (h : BX w B bs P V) {k j : Nat} (hk : k < P.length) (hb : k < bs.length) (hj : j < 3) {L' : List T3} {v' : SlT} (hG : Grw w w' (slv (V k j)) (slv v')) (hO : shT.O w' B tN (slv v') L') :
    BX (w'.setCell ⟨bs[k], 2 + j, none⟩ (slv v')) B bs (P.set k (P[k].upd j L')) (updV V k j v') := by
  have hK := hG.keepsO
  have hbk : w'.heap[bs[k]]? = some (bxC P[k] V k) := by
    have g := (h.b k hk hb).2
    rw [hK.block _ (lt_of_blk g) (fun hm => h.ne hk hj hk hb (by simpa using hm) rfl), g]
  have hk2 : Keeps [bs[k]] w' (w'.setCell ⟨bs[k], 2 + j, none⟩ (slv v')) := (Keeps.refl _ _).setCell (.inr (by simp)) _
  have hne : ∀ {L : List T3} {v : Value}, shT.O w' B tN v L → v.ownBlock ≠ some bs[k] := fun hO e => by
    obtain ⟨cs, hc⟩ := hO.tag _ e
    exact tag_ne hc hbk (by decide) rfl
  refine ⟨by rw [List.length_set]; exact h.len, fun i h1 h2 => ?_, h.nd, fun k' j' hk' hj' => ?_, fun k' j' k2 j2 b h1 h2 h3 h4 e1 e2 => ?_⟩
  · have hi : i < P.length := by simpa using h1
    refine ⟨(h.b i hi h2).1, ?_⟩
    by_cases e : i = k
    · subst e
      rw [List.getElem_set_self]
      match j, hj with
      | 0, _ => simp [World.setCell, Array.getElem?_modify, hbk, bxC, PCl.upd, updV]
      | 1, _ => simp [World.setCell, Array.getElem?_modify, hbk, bxC, PCl.upd, updV]
      | 2, _ => simp [World.setCell, Array.getElem?_modify, hbk, bxC, PCl.upd, updV]
    · have hne2 : bs[i] ≠ bs[k] := fun e2 => e (nd_inj h.nd h2 hb e2)
      have g := (h.b i hi h2).2
      have g2 : w'.heap[bs[i]]? = some (bxC P[i] V i) := by rw [hK.block _ (lt_of_blk g) (fun hm => h.ne hk hj hi h2 (by simpa using hm) rfl), g]
      rw [hk2.block _ (lt_of_blk g2) (by simpa using hne2), g2]
      have e3 : (P.set k (P[k].upd j L'))[i]'h1 = P[i] := by rw [List.getElem_set]; rw [if_neg (fun h => e h.symm)]
      rw [e3]
      simp [bxC, updV, e]
  · have hk3 : k' < P.length := by simpa using hk'
    rw [List.getElem_set]
    by_cases e : k = k'
    · subst e
      rw [if_pos rfl, CL.at_upd _ _ _ _ hj hj']
      by_cases ej : j' = j
      · subst ej
        rw [if_pos rfl]
        simp only [updV, and_self, if_true]
        exact hO.keepS hk2 (fun b hb e => by simp at hb; subst hb; exact hne hO e)
      · rw [if_neg ej]
        simp only [updV, ej, and_false, if_false]
        have h1 : shT.O w' B tN (slv (V k j')) (P[k].at j') := (h.o k j' hk hj').keepS hK (fun b hb e => ej (h.d k j k j' b hk hj hk hj' (by simpa using hb) e).2.symm)
        exact h1.keepS hk2 (fun b hb e => by simp at hb; subst hb; exact hne h1 e)
    · rw [if_neg e]
      have e' : ¬ k' = k := fun h => e h.symm
      simp only [updV, e', false_and, if_false]
      have h1 : shT.O w' B tN (slv (V k' j')) (P[k'].at j') := (h.o k' j' hk3 hj').keepS hK (fun b hb e2 => e (h.d k j k' j' b hk hj hk3 hj' (by simpa using hb) e2).1)
      exact h1.keepS hk2 (fun b hb e => by simp at hb; subst hb; exact hne h1 e)
  · have l1 : k' < P.length := by simpa using h1
    have l2 : k2 < P.length := by simpa using h3
    have old : ∀ a c, a < P.length → c < 3 → (slv (V a c)).ownBlock = some b → b < w.heap.size := fun a c ha hc e => (h.o a c ha hc).lt b e
    by_cases c1 : k' = k ∧ j' = j
    · by_cases c2 : k2 = k ∧ j2 = j
      · exact ⟨c1.1.trans c2.1.symm, c1.2.trans c2.2.symm⟩
      · exfalso
        obtain ⟨rfl, rfl⟩ := c1
        simp only [updV, and_self, if_true] at e1
        simp only [updV, if_neg c2] at e2
        rcases hG.own with e3 | ⟨q, e3, hq⟩
        · rw [e3] at e1
          have := h.d k' j' k2 j2 b l1 h2 l2 h4 e1 e2
          exact c2 ⟨this.1.symm, this.2.symm⟩
        · rw [e3] at e1; cases e1
          have := old k2 j2 l2 h4 e2; omega
    · by_cases c2 : k2 = k ∧ j2 = j
      · exfalso
        obtain ⟨rfl, rfl⟩ := c2
        simp only [updV, and_self, if_true] at e2
        simp only [updV, if_neg c1] at e1
        rcases hG.own with e3 | ⟨q, e3, hq⟩
        · rw [e3] at e2
          exact c1 (h.d k' j' k2 j2 b l1 h2 l2 h4 e1 e2)
        · rw [e3] at e2; cases e2
          have := old k' j' l1 h2 e1; omega
      · simp only [updV, if_neg c1] at e1
        simp only [updV, if_neg c2] at e2
        exact h.d k' j' k2 j2 b l1 h2 l2 h4 e1 e2
/-- One list turns, in its own block. -/
theorem turn (h : BX w B bs P V) {k j : Nat} (hk : k < P.length) (hj : j < 3) {L' : List T3} (hK : Keeps (slv (V k j)).ownBlock.toList w w') (hO : shT.O w' B tN (slv (V k j)) L') : BX w' B bs (P.set k (P[k].upd j L')) V := by
  refine ⟨by rw [List.length_set]; exact h.len, fun i h1 h2 => ?_, h.nd, fun k' j' hk' hj' => ?_, fun k' j' k2 j2 b h1 h2 h3 h4 e1 e2 => h.d k' j' k2 j2 b (by simpa using h1) h2 (by simpa using h3) h4 e1 e2⟩
  · have hi : i < P.length := by simpa using h1
    have g := (h.b i hi h2).2
    refine ⟨(h.b i hi h2).1, ?_⟩
    rw [hK.block _ (lt_of_blk g) (fun hm => h.ne hk hj hi h2 (by simpa using hm) rfl), g]
    rw [List.getElem_set]
    split
    · rename_i e; subst e; simp only [bxC, (CL.upd_m _ _ _).1, (CL.upd_m _ _ _).2]
    · rfl
  · have hk2 : k' < P.length := by simpa using hk'
    rw [List.getElem_set]
    by_cases e : k = k'
    · subst e
      rw [if_pos rfl, CL.at_upd _ _ _ _ hj hj']
      by_cases ej : j' = j
      · subst ej; rw [if_pos rfl]; exact hO
      · rw [if_neg ej]
        exact (h.o k j' hk hj').keepS hK (fun b hb e => ej (h.d k j k j' b hk hj hk hj' (by simpa using hb) e).2.symm)
    · rw [if_neg e]
      exact (h.o k' j' hk2 hj').keepS hK (fun b hb e2 => e (h.d k j k' j' b hk hj hk2 hj' (by simpa using hb) e2).1)
end BX
end Go.Proofs.YtiplgpefapeapaaGreat

namespace Go.Proofs
open Go.Shelf
def Tryz.keysA_ren : Go.Shelf.Ren := ⟨fun | 7 => 104 | 10 => 117 | n => n, fun | 23 => 149 | 26 => 3 | 3 => 136 | 28 => 152 | 0 => 0 | 27 => 151 | 33 => 108 | 4 => 4 | n => n, fun | n => n⟩
theorem Tryz.keysA : Go.Proofs.SlLaysZI.n7 Tryz.prog Tryz.keysA_ren := {
  mixed := by kernel_rfl
  f7 := ⟨Tryz.f104.name, by decide, Tryz.func104.trans (congrArg some (by kernel_rfl))⟩
  f10 := ⟨Tryz.f117.name, by decide, Tryz.func117.trans (congrArg some (by kernel_rfl))⟩
  t0 := Tryz.underlying0
  a0 := Tryz.isAgg0
  z0 := Tryz.sizeOf0
  v0 := Tryz.zeroValue0
  t4 := Tryz.underlying4
  a4 := Tryz.isAgg4
  z4 := Tryz.sizeOf4
  v4 := Tryz.zeroValue4
  t23 := Tryz.underlying149
  a23 := Tryz.isAgg149
  z23 := Tryz.sizeOf149
  v23 := Tryz.zeroValue149
  t26 := Tryz.underlying3
  a26 := Tryz.isAgg3
  z26 := Tryz.sizeOf3
  v26 := Tryz.zeroValue3
  t27 := Tryz.underlying151
  a27 := Tryz.isAgg151
  z27 := Tryz.sizeOf151
  v27 := Tryz.zeroValue151
  t28 := Tryz.underlying152
  a28 := Tryz.isAgg152
  z28 := Tryz.sizeOf152
  v28 := Tryz.zeroValue152
  t33 := Tryz.underlying108
  a33 := Tryz.isAgg108
  z33 := Tryz.sizeOf108
  v33 := Tryz.zeroValue108 }
def Tryz.sortedA_ren : Go.Shelf.Ren := ⟨fun | 6 => 103 | 8 => 115 | 9 => 116 | 11 => 136 | 13 => 111 | 12 => 137 | 23 => 126 | 24 => 127 | 14 => 146 | 15 => 147 | 16 => 148 | 17 => 149 | 18 => 150 | 19 => 151 | 20 => 152 | 21 => 153 | 22 => 154 | 25 => 157 | 26 => 139 | 27 => 140 | 28 => 158 | 29 => 159 | 30 => 112 | 31 => 160 | n => n, fun | 26 => 3 | 28 => 152 | 24 => 98 | 0 => 0 | 3 => 3 | 37 => 127 | 48 => 171 | 50 => 26 | 4 => 4 | 40 => 165 | 39 => 164 | 45 => 110 | 5 => 5 | 9 => 9 | 51 => 180 | 55 => 183 | 57 => 193 | 58 => 194 | 33 => 108 | n => n, fun | n => n⟩
theorem Tryz.sortedA : Go.Proofs.SlLaysZI.n6 Tryz.prog Tryz.sortedA_ren := {
  mixed := by kernel_rfl
  f6 := ⟨Tryz.f103.name, by decide, Tryz.func103.trans (congrArg some (by kernel_rfl))⟩
  f8 := ⟨Tryz.f115.name, by decide, Tryz.func115.trans (congrArg some (by kernel_rfl))⟩
  f11 := ⟨Tryz.f136.name, by decide, Tryz.func136.trans (congrArg some (by kernel_rfl))⟩
  t0 := Tryz.underlying0
  a0 := Tryz.isAgg0
  z0 := Tryz.sizeOf0
  v0 := Tryz.zeroValue0
  t24 := Tryz.underlying98
  a24 := Tryz.isAgg98
  z24 := Tryz.sizeOf98
  v24 := Tryz.zeroValue98
  t26 := Tryz.underlying3
  a26 := Tryz.isAgg3
  z26 := Tryz.sizeOf3
  v26 := Tryz.zeroValue3
  t28 := Tryz.underlying152
  a28 := Tryz.isAgg152
  z28 := Tryz.sizeOf152
  v28 := Tryz.zeroValue152
  i26 := by kernel_rfl }
def Tryz.sortA_ren : Go.Shelf.Ren := ⟨fun | 5 => 116 | 8 => 111 | 7 => 137 | 19 => 126 | 20 => 127 | 10 => 146 | 11 => 147 | 12 => 148 | 13 => 149 | 14 => 150 | 15 => 151 | 16 => 152 | 17 => 153 | 18 => 154 | 30 => 157 | 31 => 139 | 32 => 140 | 33 => 158 | 34 => 159 | 35 => 112 | 40 => 160 | n => n, fun | 23 => 98 | 25 => 3 | 3 => 3 | 32 => 127 | 22 => 98 | 0 => 0 | 44 => 171 | 46 => 26 | 4 => 4 | 36 => 165 | 35 => 164 | 41 => 110 | 5 => 5 | 9 => 9 | 53 => 180 | 57 => 183 | 63 => 193 | 64 => 194 | n => n, fun | n => n⟩
theorem Tryz.sortA : Go.Proofs.SlLaysM.n5 Tryz.prog Tryz.sortA_ren := {
  mixed := by kernel_rfl
  f5 := ⟨Tryz.f116.name, by decide, Tryz.func116.trans (congrArg some (by kernel_rfl))⟩
  f7 := ⟨Tryz.f137.name, by decide, Tryz.func137.trans (congrArg some (by kernel_rfl))⟩
  f8 := Tryz.func111.trans (congrArg some (by kernel_rfl))
  f10 := ⟨Tryz.f146.name, by decide, Tryz.func146.trans (congrArg some (by kernel_rfl))⟩
  f11 := ⟨Tryz.f147.name, by decide, Tryz.func147.trans (congrArg some (by kernel_rfl))⟩
  f12 := ⟨Tryz.f148.name, by decide, Tryz.func148.trans (congrArg some (by kernel_rfl))⟩
  f13 := ⟨Tryz.f149.name, by decide, Tryz.func149.trans (congrArg some (by kernel_rfl))⟩
  f14 := ⟨Tryz.f150.name, by decide, Tryz.func150.trans (congrArg some (by kernel_rfl))⟩
  f15 := ⟨Tryz.f151.name, by decide, Tryz.func151.trans (congrArg some (by kernel_rfl))⟩
  f16 := ⟨Tryz.f152.name, by decide, Tryz.func152.trans (congrArg some (by kernel_rfl))⟩
  f17 := ⟨Tryz.f153.name, by decide, Tryz.func153.trans (congrArg some (by kernel_rfl))⟩
  f18 := ⟨Tryz.f154.name, by decide, Tryz.func154.trans (congrArg some (by kernel_rfl))⟩
  f19 := Tryz.func126.trans (congrArg some (by kernel_rfl))
  f20 := Tryz.func127.trans (congrArg some (by kernel_rfl))
  f30 := ⟨Tryz.f157.name, by decide, Tryz.func157.trans (congrArg some (by kernel_rfl))⟩
  f31 := Tryz.func139.trans (congrArg some (by kernel_rfl))
  f32 := Tryz.func140.trans (congrArg some (by kernel_rfl))
  f33 := ⟨Tryz.f158.name, by decide, Tryz.func158.trans (congrArg some (by kernel_rfl))⟩
  f34 := ⟨Tryz.f159.name, by decide, Tryz.func159.trans (congrArg some (by kernel_rfl))⟩
  f35 := ⟨Tryz.f112.name, by decide, Tryz.func112.trans (congrArg some (by kernel_rfl))⟩
  f40 := ⟨Tryz.f160.name, by decide, Tryz.func160.trans (congrArg some (by kernel_rfl))⟩
  t0 := Tryz.underlying0
  a0 := Tryz.isAgg0
  z0 := Tryz.sizeOf0
  v0 := Tryz.zeroValue0
  t3 := Tryz.underlying3
  a3 := Tryz.isAgg3
  z3 := Tryz.sizeOf3
  v3 := Tryz.zeroValue3
  t4 := Tryz.underlying4
  a4 := Tryz.isAgg4
  z4 := Tryz.sizeOf4
  v4 := Tryz.zeroValue4
  t5 := Tryz.underlying5
  a5 := Tryz.isAgg5
  z5 := Tryz.sizeOf5
  v5 := Tryz.zeroValue5
  t9 := Tryz.underlying9
  a9 := Tryz.isAgg9
  z9 := Tryz.sizeOf9
  v9 := Tryz.zeroValue9
  t22 := Tryz.underlying98
  a22 := Tryz.isAgg98
  z22 := Tryz.sizeOf98
  v22 := Tryz.zeroValue98
  t23 := Tryz.underlying98
  a23 := Tryz.isAgg98
  z23 := Tryz.sizeOf98
  v23 := Tryz.zeroValue98
  t25 := Tryz.underlying3
  a25 := Tryz.isAgg3
  z25 := Tryz.sizeOf3
  v25 := Tryz.zeroValue3
  t32 := Tryz.underlying127
  a32 := Tryz.isAgg127
  z32 := Tryz.sizeOf127
  v32 := Tryz.zeroValue127
  t35 := Tryz.underlying164
  a35 := Tryz.isAgg164
  z35 := Tryz.sizeOf164
  v35 := Tryz.zeroValue164
  t36 := Tryz.underlying165
  a36 := Tryz.isAgg165
  z36 := Tryz.sizeOf165
  v36 := Tryz.zeroValue165
  t41 := Tryz.underlying110
  a41 := Tryz.isAgg110
  z41 := Tryz.sizeOf110
  v41 := Tryz.zeroValue110
  t44 := Tryz.underlying171
  a44 := Tryz.isAgg171
  z44 := Tryz.sizeOf171
  v44 := Tryz.zeroValue171
  t46 := Tryz.underlying26
  a46 := Tryz.isAgg26
  z46 := Tryz.sizeOf26
  v46 := Tryz.zeroValue26
  t53 := Tryz.underlying180
  a53 := Tryz.isAgg180
  z53 := Tryz.sizeOf180
  v53 := Tryz.zeroValue180
  t57 := Tryz.underlying183
  a57 := Tryz.isAgg183
  z57 := Tryz.sizeOf183
  v57 := Tryz.zeroValue183
  t63 := Tryz.underlying193
  a63 := Tryz.isAgg193
  z63 := Tryz.sizeOf193
  v63 := Tryz.zeroValue193
  t64 := Tryz.underlying194
  a64 := Tryz.isAgg194
  z64 := Tryz.sizeOf194
  v64 := Tryz.zeroValue194 }
end Go.Proofs

namespace Go.Proofs.YtiplgpefapeapaaGreat
open Go.RowKit Go.Maps Go.Sort Go.Shelf Go.Proofs

abbrev pV (b : Nat) : Value := .pointer (some ⟨b, 0, none⟩)
theorem ktZ_keys {w : World} {b : Nat} {L : List (Int × Nat)} (h : MapS.M ktZ pV w b L) : ∃ D, w.ownsMap Tryz.prog 3 MapS.raw b L.length D ∧ Maps.size D = L.length ∧ (L.map (·.1)).Perm (intKeys D) := by
  obtain ⟨⟨D, h1, h2, h3, h4⟩, hn, ho⟩ := h
  refine ⟨D, h1, h2, CollectedI.perm (left := fun _ => false) ⟨hn, fun x => ?_⟩ h1 (Maps.int_keyed Tryz.underlying3) Tryz.underlying3 (fun _ => rfl)⟩
  constructor
  · intro hx
    obtain ⟨p, hp, rfl⟩ := List.mem_map.1 hx
    have hk : keyOf Tryz.prog 3 (zV p.1) = some (.int .i64 p.1) := Maps.keyOf_int_mk Tryz.underlying3 (ho p hp)
    have := h3.hs ktZ hk
    rw [MapS.get_of_mem hn hp] at this
    exact ⟨this, rfl⟩
  · rintro ⟨hx, _⟩
    obtain ⟨y, hy, hs⟩ := h4 _ hx
    obtain ⟨z, e1, e2, _⟩ := Maps.keyOf_i64 Tryz.underlying3 hy
    have e3 : y = z := by
      have : zV y = encZ z := e1
      simpa [zV, encZ] using this
    simp only [Lit.int.injEq, true_and] at e2
    obtain ⟨u, hu⟩ := Option.isSome_iff_exists.1 hs
    rw [e2, ← e3]
    exact List.mem_map.2 ⟨_, MapS.get_mem hu, rfl⟩
theorem sortsA (m : Nat) : AnyZI.SortsIn Tryz.prog Tryz.sortedA_ren Fence.wide m :=
  ⟨fun blk off cap ss W hH hblk hsz => callsIn_wide.2 (AnyM.slices_Sort_int Tryz.sortA blk off cap ss W hH hblk hsz),
   fun p cap W => callsIn_wide.2 (AnyM.slices_Sort_int_none Tryz.sortA p cap W)⟩
theorem keysC_c (mb : Option Nat) (w : World) : Calls Tryz.prog 104 #[.map mb] w fun e w' => e = .returned (.func (.func 117) #[] #[.pointer (some ⟨w.heap.size, 0, none⟩)]) ∧ w' = w.alloc (.cells #[.map mb] 149) :=
  callsIn_wide.1 (AnyZI.keys_in Tryz.keysA Fence.wide 5 trivial rfl mb w)
theorem sorted_eqZ {ss ks : List Int} (h : ss.Perm ks) (hk : ks.Pairwise (· < ·)) : ss.mergeSort (fun x y => decide (x ≤ y)) = ks := by
  have h1 := mergeSort_of_perm_i h
  have h2 : ks.mergeSort leI = ks := List.mergeSort_of_pairwise (hk.imp (fun h => by simp [leI]; omega))
  exact h1.trans h2
set_option maxRecDepth 100000 in
set_option maxHeartbeats 1000000 in
theorem sortedC_c (w : World) (B bm : Nat) (L : List (Int × Nat)) (h : MapS.M ktZ pV w bm L) (hs : (L.map (·.1)).Pairwise (· < ·)) (hbox : w.cell? ⟨B, 0, none⟩ = some (.map (some bm))) (hB : B < w.heap.size) (hl : L.length ≤ 1000000) :
    Calls Tryz.prog 103 #[.func (.func 117) #[] #[.pointer (some ⟨B, 0, none⟩)]] w fun e w' => ∃ v, e = .returned v ∧ shZ.O w' w.heap.size 3 v (L.map (·.1)) ∧ Keeps [] w w' := by
  obtain ⟨D, hown, hsz, hp⟩ := ktZ_keys h
  have hseq : SeqGives Fence.wide 2 Tryz.prog 117 #[.pointer (some ⟨B, 0, none⟩)] encZ (fun ss => ss.Perm (intKeys D)) (Maps.size D) w :=
    AnyZI.keys_gives (ρ := Tryz.keysA_ren) { Tryz.keysA with } Fence.wide _ trivial rfl (by omega) B bm L.length D _ hB hbox hown
  have cS := AnyZI.sorted_in Tryz.sortedA Fence.wide 5 trivial trivial trivial trivial rfl (by omega) (sortsA _) (enters_of Tryz.func116 (by kernel_rfl) rfl) 117 #[.pointer (some ⟨B, 0, none⟩)] trivial (enters_of Tryz.func117 (by kernel_rfl) rfl) _ _ (by rw [hsz]; unfold maxLen; omega) (by rw [hsz]; omega) _ hseq
  change CallsIn _ _ Tryz.prog 103 _ _ _ at cS
  refine (callsIn_wide.1 cS).mono ?_
  rintro e w' ⟨v, ss, rfl, hS, hrow, _, hb⟩
  have hpp := hS.trans hp.symm
  have hsrt := sorted_eqZ hpp hs
  rw [hsrt, hpp.length_eq] at hrow
  refine ⟨v, rfl, ?_, Keeps.of_below hb⟩
  have e : (L.map (·.1)).map encZ = shZ.cs (L.map (·.1)) := by
    generalize L.map (·.1) = l
    induction l with
    | nil => rfl
    | cons a l ih => rw [List.map_cons, ih]; rfl
  rw [e] at hrow
  exact hrow
end Go.Proofs.YtiplgpefapeapaaGreat

namespace Go.Proofs.YtiplgpefapeapaaGreat
open Go.RowKit

theorem msB_len (L : List Int) (a : Ans) : (msA L a).length ≤ L.length + 1 := by unfold msA; split <;> simp
theorem msG_len : ∀ (Y : List Ans) (L : List Int), (Y.foldl msA L).length ≤ L.length + Y.length
  | [], L => by simp
  | a :: Y, L => by
    have ih := msG_len Y (msA L a)
    have := msB_len L a
    rw [List.foldl_cons, List.length_cons]
    omega
theorem msL_len (Y : List Ans) : (msOf Y).length ≤ Y.length := by have := msG_len Y []; simpa [msOf] using this
theorem map_set_upd (P : List PCl) {n : Nat} (hn : n < P.length) (j : Nat) (L : List T3) : (P.set n (P[n].upd j L)).map PCl.m = P.map PCl.m := by
  refine List.ext_getElem (by simp) (fun i h1 h2 => ?_)
  rw [List.getElem_map, List.getElem_map, List.getElem_set]
  split
  · rename_i e; subst e; exact (CL.upd_m _ _ _).1
  · rfl
theorem basC_small {O : List (Qn × Int)} {Y : List Ans} (hs : SrtA Y) {p : PCl} (hp : p ∈ basC O Y) : p.st.length ≤ Y.length ∧ p.sc = [] ∧ p.ch.length ≤ Y.length := by
  rw [basC_eq hs] at hp
  obtain ⟨m, _, rfl⟩ := List.mem_map.1 hp
  exact ⟨List.length_filterMap_le _ _, rfl, List.length_filterMap_le _ _⟩
theorem BX.app2 {w w' : World} {B : Nat} {bs : List Nat} {P : List PCl} {V : Nat → Nat → SlT} (h : BX w B bs P V) {k j gb : Nat} (hk : k < P.length) (hb : k < bs.length) (hg : bs[k] = gb) (hj : j < 3) {L' : List T3} {v' : SlT} (hG : Grw w w' (slv (V k j)) (slv v')) (hO : shT.O w' B tN (slv v') L') :
    BX (w'.setCell ⟨gb, 2 + j, none⟩ (slv v')) B bs (P.set k (P[k].upd j L')) (updV V k j v') := by
  subst hg
  exact h.app hk hb hj hG hO
/-- The claims while their scions are gathered. -/
structure MidC (P P1 : List PCl) (Y : List Ans) (D : List (Qn × Int)) : Prop where
  len : P.length = P1.length
  at' : ∀ i (h1 : i < P.length) (h2 : i < P1.length), P[i].m = P1[i].m ∧ P[i].ep = P1[i].ep ∧ P[i].st = P1[i].st ∧ P[i].ch = P1[i].ch ∧ P[i].sc = scD Y P1[i].m D
theorem MidC.ms {P P1 : List PCl} {Y : List Ans} {D : List (Qn × Int)} (h : MidC P P1 Y D) : P.map PCl.m = P1.map PCl.m := List.ext_getElem (by simp [h.len]) (fun i h1 h2 => by
  simp only [List.length_map] at h1 h2
  rw [List.getElem_map, List.getElem_map, (h.at' i h1 h2).1])
theorem MidC.step {P P1 : List PCl} {Y : List Ans} {D : List (Qn × Int)} (h : MidC P P1 Y D) {n : Nat} (hn : n < P.length) (p : Qn × Int) (hm : P[n].m = p.1.1) (hnd : (P1.map PCl.m).Nodup) :
    MidC (P.set n (P[n].upd 1 (P[n].at 1 ++ [(p.1.2.1, p.1.2.2, luL Y (p.1.2.1, p.1.1, p.1.2.2))]))) P1 Y (D ++ [p]) := by
  have hl := h.len
  refine ⟨by rw [List.length_set]; exact hl, fun i h1 h2 => ?_⟩
  have hi : i < P.length := by simpa using h1
  obtain ⟨g1, g2, g3, g4, g5⟩ := h.at' i hi h2
  rw [List.getElem_set]
  by_cases e : n = i
  · subst e
    rw [if_pos rfl]
    refine ⟨g1, g2, g3, g4, ?_⟩
    show P[n].sc ++ _ = _
    rw [g5, scD_snoc]
    unfold scE
    rw [if_pos (by rw [← hm, g1]), ← g1, hm]
    rfl
  · rw [if_neg e]
    refine ⟨g1, g2, g3, g4, ?_⟩
    rw [g5, scD_snoc]
    unfold scE
    have hne : ¬ p.1.1 = P1[i].m := fun e2 => e (by
      have e3 : P1[n]'(by omega) = P1[n]'(by omega) := rfl
      have e4 : (P1[n]'(by omega)).m = P1[i].m := by rw [← (h.at' n hn (by omega)).1, hm, e2]
      rcases Nat.lt_trichotomy n i with c | c | c
      · have := List.pairwise_iff_getElem.1 hnd n i (by simp; omega) (by simp; omega) c
        simp only [List.getElem_map] at this
        exact absurd e4 this
      · exact c
      · have := List.pairwise_iff_getElem.1 hnd i n (by simp; omega) (by simp; omega) c
        simp only [List.getElem_map] at this
        exact absurd e4.symm this)
    rw [if_neg hne]
    simp
/-- The claims while their lists are sorted. -/
structure SrtC (P Pm : List PCl) (dn : Nat → Nat → Prop) : Prop where
  len : P.length = Pm.length
  me : ∀ i (h1 : i < P.length) (h2 : i < Pm.length), P[i].m = Pm[i].m ∧ P[i].ep = Pm[i].ep
  ls : ∀ i (h1 : i < P.length) (h2 : i < Pm.length) j, j < 3 → (P[i].at j).Perm (Pm[i].at j)
  srt : ∀ i (h1 : i < P.length) j, j < 3 → dn i j → (P[i].at j).Pairwise (fun x y => ¬ tlt y x)
theorem SrtC.start (P : List PCl) : SrtC P P (fun a _ => a < 0) := ⟨rfl, fun _ _ _ => ⟨rfl, rfl⟩, fun _ _ _ _ _ => List.Perm.refl _, fun _ _ _ _ h => absurd h (by omega)⟩
theorem SrtC.weak {P Pm : List PCl} {d e : Nat → Nat → Prop} (h : SrtC P Pm d) (he : ∀ i j, j < 3 → e i j → d i j) : SrtC P Pm e := ⟨h.len, h.me, h.ls, fun i h1 j hj hd => h.srt i h1 j hj (he i j hj hd)⟩
theorem SrtC.turn {P Pm : List PCl} {i k : Nat} (h : SrtC P Pm (fun a j => a < i ∨ (a = i ∧ j < k))) (hi : i < P.length) (hk : k < 3) {L : List T3} (hp : L.Perm (P[i].at k)) (hs : L.Pairwise (fun x y => ¬ tlt y x)) :
    SrtC (P.set i (P[i].upd k L)) Pm (fun a j => a < i ∨ (a = i ∧ j < k + 1)) := by
  refine ⟨by rw [List.length_set]; exact h.len, fun a h1 h2 => ?_, fun a h1 h2 j hj => ?_, fun a h1 j hj hd => ?_⟩
  · have ha : a < P.length := by simpa using h1
    rw [List.getElem_set]
    split
    · rename_i e; subst e; rw [(CL.upd_m _ _ _).1, (CL.upd_m _ _ _).2]; exact h.me i ha h2
    · exact h.me a ha h2
  · have ha : a < P.length := by simpa using h1
    rw [List.getElem_set]
    split
    · rename_i e; subst e
      rw [CL.at_upd _ _ _ _ hk hj]
      split
      · rename_i e; subst e; exact hp.trans (h.ls i ha h2 j hj)
      · exact h.ls i ha h2 j hj
    · exact h.ls a ha h2 j hj
  · have ha : a < P.length := by simpa using h1
    rw [List.getElem_set]
    split
    · rename_i e; subst e
      rw [CL.at_upd _ _ _ _ hk hj]
      split
      · exact hs
      · rename_i e2
        refine h.srt i ha j hj ?_
        rcases hd with c | ⟨_, c⟩
        · exact .inl c
        · exact .inr ⟨rfl, by omega⟩
    · rename_i e
      refine h.srt a ha j hj ?_
      rcases hd with c | ⟨c, _⟩
      · exact .inl c
      · exact absurd c.symm e
theorem zeroP (w : World) : (zeroValue 136).run Tryz.prog w = .ok (.pointer none) w := by kernel_rfl
/-- What holds while the claims are sorted and gathered. -/
structure L3 (w wl : World) (Z0 Zo Zs bM : Nat) (bs : List Nat) (Q : List PCl) (V : Nat → Nat → SlT) (ov : Value) (rows : List ClV) (ms : List Int) (vS : Value) : Prop where
  bx : BX wl Z0 bs Q V
  out : shC.O wl Zo tC ov rows
  mp : MapS.M ktZ pV wl bM (ms.zip bs)
  srt : shZ.O wl Zs 3 vS ms
  kp : Keeps [] w wl
  zo : Zo ≤ wl.heap.size
namespace L3
variable {w wl wl' : World} {Z0 Zo Zs bM : Nat} {bs : List Nat} {Q : List PCl} {V : Nat → Nat → SlT} {ov ov' : Value} {rows rows' : List ClV} {ms : List Int} {vS : Value}
theorem keeps (h : L3 w wl Z0 Zo Zs bM bs Q V ov rows ms vS) (hk : Keeps [] wl wl') : L3 w wl' Z0 Zo Zs bM bs Q V ov rows ms vS := ⟨h.bx.keeps hk, h.out.keeps hk, h.mp.keeps ktZ hk, h.srt.keeps hk, h.kp.trans hk, Nat.le_trans h.zo hk.size⟩
theorem turn (h : L3 w wl Z0 Zo Zs bM bs Q V ov rows ms vS) (hz : w.heap.size ≤ Z0) (hM : bM < Z0) {k j : Nat} (hk : k < Q.length) (hj : j < 3) {L' : List T3} (hK : Keeps (slv (V k j)).ownBlock.toList wl wl') (hO : shT.O wl' Z0 tN (slv (V k j)) L') : L3 w wl' Z0 Zo Zs bM bs (Q.set k (Q[k].upd j L')) V ov rows ms vS := by
  have ho := h.bx.o k j hk hj
  refine ⟨h.bx.turn hk hj hK hO, h.out.keepS hK (fun b hb e => ?_), h.mp.kept ktZ hK (fun hm => ?_), h.srt.keepS hK (fun b hb e => ?_), h.kp.fresh hK (fun b hb => .inr ?_), Nat.le_trans h.zo hK.size⟩
  · obtain ⟨cs, hc⟩ := ho.tag b (by simpa using hb)
    obtain ⟨cs', hc'⟩ := h.out.tag b e
    exact tag_ne hc hc' (by decide) rfl
  · have := ho.ge bM (by simpa using hm)
    omega
  · obtain ⟨cs, hc⟩ := ho.tag b (by simpa using hb)
    obtain ⟨cs', hc'⟩ := h.srt.tag b e
    exact tag_ne hc hc' (by decide) rfl
  · have := ho.ge b (by simpa using hb)
    omega
theorem app (h : L3 w wl Z0 Zo Zs bM bs Q V ov rows ms vS) (hz : w.heap.size ≤ Zo) (hM : bM < Zo) (hb1 : ∀ k (hk : k < bs.length), bs[k] < Zo) (hb2 : ∀ k j b, k < Q.length → j < 3 → (slv (V k j)).ownBlock = some b → b < Zo)
    (hG : Grw wl wl' ov ov') (hO : shC.O wl' Zo tC ov' rows') : L3 w wl' Z0 Zo Zs bM bs Q V ov' rows' ms vS := by
  have hK := hG.keepsO
  have hge : ∀ b, b ∈ ov.ownBlock.toList → Zo ≤ b := fun b hb => h.out.ge b (by simpa using hb)
  refine ⟨h.bx.keepS hK (fun k hk hm => ?_) (fun k j b h1 h2 h3 hm => ?_), hO, h.mp.kept ktZ hK (fun hm => ?_), h.srt.keepS hK (fun b hb e => ?_), h.kp.fresh hK (fun b hb => .inr ?_), Nat.le_trans h.zo hK.size⟩
  · have := hge _ hm; have := hb1 k hk; omega
  · have := hge _ hm; have := hb2 k j b h1 h2 h3; omega
  · have := hge _ hm; omega
  · obtain ⟨cs, hc⟩ := h.out.tag b (by simpa using hb)
    obtain ⟨cs', hc'⟩ := h.srt.tag b e
    exact tag_ne hc hc' (by decide) rfl
  · have := hge _ hb; omega
end L3
theorem rowsC_take (P : List PCl) (V : Nat → Nat → SlT) (q : Nat) (hq : q < P.length) : (rowsC P V).take (q + 1) = (rowsC P V).take q ++ [⟨P[q].m, P[q].ep, V q 0, V q 1, V q 2⟩] := by
  rw [List.take_succ_eq_append_getElem (by rw [rowsC_len]; exact hq), rowsC_get P V q hq]
/-- The end: the rows are the claims. -/
theorem claims_fin {w : World} {Z0 Zo : Nat} {bs : List Nat} {Y : List Ans} {P1 P Q : List PCl} {V : Nat → Nat → SlT} {ov : Value} {D : List (Qn × Int)} (hs : SrtA Y) (hP1 : P1 = (msOf Y).map (basOf (outsOf Y) Y)) (hmid : MidC P P1 Y D) (hD : D.Perm (outsOf Y)) (hq : SrtC Q P (fun a _ => a < P.length)) (hb : BX w Z0 bs Q V) (ho : shC.O w Zo tC ov (rowsC P V)) : LC w ov (clY Y) := by
  have hQ : Q = clY Y := by
    have l1 := hmid.len
    have l2 := hq.len
    have l3 : P1.length = (msOf Y).length := by rw [hP1]; simp
    refine clY_fin hs (by omega) (fun k h1 h2 => ?_)
    have k1 : k < P.length := by omega
    have k2 : k < P1.length := by omega
    obtain ⟨g1, g2, g3, g4, g5⟩ := hmid.at' k k1 k2
    obtain ⟨f1, f2⟩ := hq.me k h1 k1
    have e1 : P1[k] = basOf (outsOf Y) Y (msOf Y)[k] := by simp only [hP1, List.getElem_map]
    rw [e1] at g1 g2 g3 g4 g5
    have a0 := hq.ls k h1 k1 0 (by omega)
    have a1 := hq.ls k h1 k1 1 (by omega)
    have a2 := hq.ls k h1 k1 2 (by omega)
    have b0 := hq.srt k h1 0 (by omega) k1
    have b1 := hq.srt k h1 1 (by omega) k1
    have b2 := hq.srt k h1 2 (by omega) k1
    have c0 : P[k].at 0 = stOf (outsOf Y) Y (msOf Y)[k] := g3
    have c1 : P[k].at 1 = scD Y (msOf Y)[k] D := g5
    have c2 : P[k].at 2 = chOf (outsOf Y) Y (msOf Y)[k] := g4
    rw [c0] at a0
    rw [c1] at a1
    rw [c2] at a2
    exact ⟨f1.trans g1, f2.trans g2, ⟨a0, b0⟩, ⟨a1.trans (scD_perm _ hD), b1⟩, a2, b2⟩
  rw [← hQ]
  refine ⟨_, ho.r, by rw [rowsC_len]; exact hq.len.symm, fun k x p hx hp => ?_⟩
  obtain ⟨hk, rfl⟩ := List.getElem?_eq_some_iff.1 hp
  obtain ⟨hk2, rfl⟩ := List.getElem?_eq_some_iff.1 hx
  have hkP : k < P.length := by rw [rowsC_len] at hk2; exact hk2
  obtain ⟨f1, f2⟩ := hq.me k hk hkP
  rw [rowsC_get P V k hkP]
  exact ⟨f1.symm, f2.symm, (hb.o k 0 hk (by omega)).r, (hb.o k 1 hk (by omega)).r, (hb.o k 2 hk (by omega)).r⟩
end Go.Proofs.YtiplgpefapeapaaGreat
