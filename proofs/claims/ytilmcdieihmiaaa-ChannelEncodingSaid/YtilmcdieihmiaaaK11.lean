/- Texts that the laws lean on, in the order in which they build. The sorted keys of the early payloads. Channel.Encode. The reference's reader in whatever state: Uint, Count, Done. (For the codec of the channel.) The reference's reader: String. (For the codec of the channel.) The reference reads a payload. (For the codec of the channel.) The early payloads are read. (For the codec of the channel.) Decode. (For the codec of the channel.) The reference's Decode. (For the codec of the channel.) What Decode gives is what the reference's gives. Plain. (For the codec of the channel.) -/
import Derived.Test.YtilmcdieihmiaaaK10
import Derived.Lib.SlKeysI
set_option linter.unusedVariables false
set_option linter.unusedSimpArgs false
namespace Go.Proofs.Ytilmcdieihmiaaa
open Go.RowKit Go.Maps Go.Sort Go.Shelf Go.Proofs

/-- The early payloads, listed in ascending order. -/
structure EL (early : Int → Option Bytes) (es : List NB) : Prop where
  mem : ∀ s l, early s = some l ↔ (s, l) ∈ es
  sorted : es.Pairwise (fun x y => x.1 < y.1)
  wf : ∀ x ∈ es, (Lit.int .i64 x.1).wf = true
theorem ME.keys {w : World} {bm n : Nat} {early : Int → Option Bytes} {es : List NB} (h : ME w bm n early) (E : EL early es) :
    ∃ D, w.ownsMap Try.prog 3 rawR bm n D ∧ (es.map (·.1)).Perm (intKeys D) ∧ Maps.size D = es.length := by
  obtain ⟨D, hown, hD⟩ := h
  obtain ⟨es1, hDe, hpw, _⟩ := hown.entries (Maps.int_keyed Try.underlying3)
  obtain ⟨es', hDe', hko⟩ := hown.keysOf
  have hes : es1 = es' := by rw [hDe] at hDe'; simpa using hDe'
  subst hes
  have hkey : ∀ p ∈ es1, ∃ x, p.1 = .int .i64 x ∧ (Lit.int .i64 x).wf = true := fun p hp => by
    obtain ⟨v, hv⟩ := hko p hp
    obtain ⟨y, _, hy, hl⟩ := Maps.keyOf_i64 Try.underlying3 hv
    exact ⟨y, hy, hl⟩
  have hp : (es.map (·.1)).Perm (intKeys D) := by
    rw [hDe]
    refine perm_intKeys hpw (fun p hp => by obtain ⟨x, hx, _⟩ := hkey p hp; exact ⟨x, hx⟩) ?_ (fun x => ?_)
    · exact List.pairwise_map.2 (E.sorted.imp (fun h e => by omega))
    · rw [← hDe]
      constructor
      · intro hx
        obtain ⟨⟨s, l⟩, hm, rfl⟩ := List.mem_map.1 hx
        exact ((hD s (E.wf _ hm)).2 l ((E.mem s l).2 hm)).1
      · intro hx
        have hw : (Lit.int .i64 x).wf = true := by
          rw [hDe, Maps.has_eq, List.any_eq_true] at hx
          obtain ⟨p, hp, hs⟩ := hx
          obtain ⟨y, hy, hw⟩ := hkey p hp
          rw [hy] at hs
          have : y = x := by simpa [Lit.sameKey] using hs
          rw [← this]; exact hw
        cases he : early x with
        | none => rw [(hD x hw).1 he] at hx; cases hx
        | some l => exact List.mem_map.2 ⟨(x, l), (E.mem x l).1 he, rfl⟩
  refine ⟨D, hown, hp, ?_⟩
  have h1 := hp.length_eq
  rw [hDe] at h1 ⊢
  simpa [intKeys, Maps.size] using h1.symm
/-- Whatever else happens, the map's answers stay. -/
theorem ME.lenS {w : World} {bm n : Nat} {early : Int → Option Bytes} {es : List NB} (h : ME w bm n early) (E : EL early es) :
    ∀ w' : World, w'.heap[bm]? = w.heap[bm]? → ∀ ty, (Builtin.len_ #[77] ty #[.map (some bm)]).run Try.prog w' = .ok (.int .i64 es.length) w' := by
  intro w' hb ty
  obtain ⟨D, ⟨es1, clock, hb1, Ft, hs1, hD⟩, _, hs⟩ := h.keys E
  have hown : w'.ownsMap Try.prog 3 rawR bm n D := ⟨es1, clock, hb.trans hb1, Ft, hs1, hD⟩
  rw [hown.len Try.underlying77 ty, hs]
theorem ME.atS {w : World} {bm n : Nat} {early : Int → Option Bytes} (h : ME w bm n early) (s : Int) (hs : (Lit.int .i64 s).wf = true) (l : Bytes) (he : early s = some l) :
    ∃ v, (∀ w' : World, w'.heap[bm]? = w.heap[bm]? → (Instr.lookup 77 (.map (some bm)) (.int .i64 s) false).run Try.prog w' = .ok v w') ∧ SlB w v l := by
  obtain ⟨D, ⟨es1, clock, hb1, Ft, hs1, hDe⟩, hD⟩ := h
  obtain ⟨h1, v', h2, h3⟩ := (hD s hs).2 l he
  refine ⟨v', fun w' hb => ?_, h3⟩
  have hown : w'.ownsMap Try.prog 3 rawR bm n D := ⟨es1, clock, hb.trans hb1, Ft, hs1, hDe⟩
  obtain ⟨v, ps, hrun, hv⟩ := World.ownsMap.lookup (w := w') hown (Maps.int_keyed Try.underlying3) Try.underlying77 (zeroL _) (zd := .held (.slice none 0 0)) (zp := []) rfl (Maps.keyOf_int_mk Try.underlying3 hs)
  simp only [rawR, Option.some.injEq, Prod.mk.injEq] at hv
  rw [h2] at hv
  have : v = v' := by have := hv.1; cases this; rfl
  rw [this] at hrun
  exact hrun
theorem sortsA (m : Nat) : AnyZI.SortsIn Try.prog Try.sortedA_ren Fence.wide m :=
  ⟨fun blk off cap ss W hH hblk hsz => callsIn_wide.2 (AnyM.slices_Sort_int Try.sortA blk off cap ss W hH hblk hsz),
   fun p cap W => callsIn_wide.2 (AnyM.slices_Sort_int_none Try.sortA p cap W)⟩
theorem keys_c (mb : Option Nat) (w : World) : Calls Try.prog 55 #[.map mb] w fun e w' => e = .returned (.func (.func 73) #[] #[.pointer (some ⟨w.heap.size, 0, none⟩)]) ∧ w' = w.alloc (.cells #[.map mb] 77) :=
  callsIn_wide.1 (AnyZI.keys_in Try.keysA Fence.wide 5 trivial rfl mb w)
theorem sorted_eqZ {ss ks : List Int} (h : ss.Perm ks) (hk : ks.Pairwise (· < ·)) : ss.mergeSort (fun x y => decide (x ≤ y)) = ks := by
  have h1 := mergeSort_of_perm_i h
  have h2 : ks.mergeSort leI = ks := List.mergeSort_of_pairwise (hk.imp (fun h => by simp [leI]; omega))
  exact h1.trans h2
set_option maxRecDepth 100000 in
set_option maxHeartbeats 1000000 in
theorem sortedK_c (w : World) (B bm n : Nat) (early : Int → Option Bytes) (es : List NB) (h : ME w bm n early) (E : EL early es) (hbox : w.cell? ⟨B, 0, none⟩ = some (.map (some bm))) (hB : B < w.heap.size) (hl : es.length ≤ 1000000) :
    Calls Try.prog 54 #[.func (.func 73) #[] #[.pointer (some ⟨B, 0, none⟩)]] w fun e w' => ∃ v, e = .returned v ∧ Sl w' 1 v es.length (es.map (fun x => Value.int .i64 x.1)) ∧ Keeps [] w w' ∧ ∀ b, v.ownBlock = some b → w.heap.size ≤ b := by
  obtain ⟨D, hown, hp, hsz⟩ := h.keys E
  have hseq : SeqGives Fence.wide 2 Try.prog 73 #[.pointer (some ⟨B, 0, none⟩)] encZ (fun ss => ss.Perm (intKeys D)) (Maps.size D) w :=
    AnyZI.keys_gives (ρ := Try.keysA_ren) { Try.keysA with } Fence.wide _ trivial rfl (by omega) B bm n D _ hB hbox hown
  have cS := AnyZI.sorted_in Try.sortedA Fence.wide 5 trivial trivial trivial trivial rfl (by omega) (sortsA _) (enters_of Try.func72 (by kernel_rfl) rfl) 73 #[.pointer (some ⟨B, 0, none⟩)] trivial (enters_of Try.func73 (by kernel_rfl) rfl) _ _ (by rw [hsz]; unfold maxLen; omega) (by rw [hsz]; omega) _ hseq
  change CallsIn _ _ Try.prog 54 _ _ _ at cS
  refine (callsIn_wide.1 cS).mono ?_
  rintro e w' ⟨v, ss, rfl, hS, hrow, _, hb⟩
  have hpp := hS.trans hp.symm
  have hsrt := sorted_eqZ hpp (List.pairwise_map.2 E.sorted)
  rw [hsrt, hpp.length_eq, List.length_map] at hrow
  refine ⟨v, rfl, ?_, Keeps.of_below hb, fun b hb2 => (World.ownsRow.lt hrow b hb2).1⟩
  have := Sl.of_owns hrow
  rw [List.map_map] at this
  exact this
end Go.Proofs.Ytilmcdieihmiaaa

namespace Go.Proofs.Ytilmcdieihmiaaa
open Go.RowKit

theorem Agr.el {C : Chan} {E : REnd} (a : Agr C E) (h : EncOk E) : EL C.early E.early :=
  ⟨a.early, a.sorted, fun x hx => wf_nat (h.ek x hx).1 (h.ek x hx).2⟩
/-- An element of a slice of words. -/
theorem sl_elem {w : World} {v : Value} {n : Nat} {cs : List Value} (h : Sl w 1 v n cs) : ∃ a c, v = .slice a n c ∧ n ≤ c ∧ c ≤ maxLen ∧ ∀ k (hk : k < n), ∃ g o u, a = some ⟨g, o, none⟩ ∧ cs[k]? = some u ∧ w.cell? ⟨g, o + k, none⟩ = some u := by
  obtain ⟨h1, a, cap, rfl, h2, h3, _, h4⟩ := h
  refine ⟨a, cap, rfl, h2, h3, fun k hk => ?_⟩
  obtain ⟨g, o, rfl, hc⟩ := h4 (by omega)
  have hk' : k < cs.length := by omega
  exact ⟨g, o, cs[k], rfl, List.getElem?_eq_getElem hk', hc k _ (List.getElem?_eq_getElem hk')⟩
set_option maxRecDepth 100000 in
set_option maxHeartbeats 10000000 in
theorem encodeS_c (w : World) (B bc bm n : Nat) (vk : Value) (C : Chan) (E : REnd) (h : Ch w B bc bm n vk C) (a : Agr C E) (hok : EncOk E) :
    Calls Try.prog 32 #[.pointer (some ⟨bc, 0, none⟩)] w fun e w' => ∃ v', e = .returned v' ∧ Buf w' w.heap.size v' (encE E) ∧ Keeps [] w w' := by
  obtain ⟨c0, c1, c2, c3, c4, cf, hlt⟩ := h.cells
  have EL0 := a.el hok
  have hlenS := h.early.lenS EL0
  have hbm := h.early.lt
  rw [a.sent] at c0
  rw [a.acked] at c1
  rw [a.received] at c2
  obtain ⟨ak, ck, rfl, hel⟩ := h.kept.elems
  rw [a.kept] at hel c3
  obtain ⟨S, hS⟩ : ∃ S, E.sent = S := ⟨_, rfl⟩
  obtain ⟨A, hA⟩ : ∃ A, E.acked = A := ⟨_, rfl⟩
  obtain ⟨R, hR⟩ : ∃ R, E.received = R := ⟨_, rfl⟩
  obtain ⟨M, hM⟩ : ∃ M, E.early.length = M := ⟨_, rfl⟩
  obtain ⟨K, hK⟩ : ∃ K, E.kept.length = K := ⟨_, rfl⟩
  obtain ⟨HL, hHL⟩ : ∃ HL, [S, A, R, M] = HL := ⟨_, rfl⟩
  have hfin : encE E = encHd HL ++ encEs E.early ++ encKs E.kept := by unfold encE; rw [hS, hA, hR, hM, hHL]
  have o1 := hok.s
  have o2 := hok.a
  have o3 := hok.r
  have o4 := hok.n
  have o5 := hok.k
  rw [hS] at o1 c0
  rw [hA] at o2 c1
  rw [hR] at o3 c2
  rw [hM] at o4 hlenS
  rw [hK] at o5 c3
  rw [hfin]
  replace hok := Lib.hid hok
  replace hfin := Lib.hid hfin
  replace EL0 := Lib.hid EL0
  replace hS := Lib.hid hS
  replace hA := Lib.hid hA
  replace hR := Lib.hid hR
  replace hM := Lib.hid hM
  replace hK := Lib.hid hK
  replace hHL := Lib.hid hHL
  replace hel := Lib.hid hel
  replace a := Lib.hid a
  have hme := h.early
  replace hme := Lib.hid hme
  replace hlenS := Lib.hid hlenS
  have c4o := c4
  have c3o := c3
  replace c4o := Lib.hid c4o
  replace c3o := Lib.hid c3o
  clear h cf
  go_enter Try.func32, Try.ntmps32
  go_wp2
  refine Free.wp_region_chain (fun i => i == 17) (fun i => true) (fun _ b => False) (by kernel_rfl) (by kernel_rfl) (by kernel_rfl) ?_
  (repeat (first | (apply Free.cw_pure rfl rfl; (intro w'; go_simp <;> exact rfl); go_frame) | (apply Free.cw_steady rfl rfl rfl; (intro w' hS2; have q0 := Free.sx_cell hS2 c0 (fun _ _ hT => hT); have q1 := Free.sx_cell hS2 c1 (fun _ _ hT => hT); have q2 := Free.sx_cell hS2 c2 (fun _ _ hT => hT); have q4 := Free.sx_cell hS2 c4 (fun _ _ hT => hT); have q5 := hlenS.out w' (hS2.block bm (by simpa using hbm) (fun ⟨_, _, _, hT⟩ => hT)); go_simp <;> exact rfl); go_frame)))
  refine Free.cw_loud rfl rfl (fun KK hKK => ?_)
  go_wp2_with fail
  have hkA : Keeps [] w (w.alloc (.cells #[.int .i64 S, .int .i64 A, .int .i64 R, .int .i64 M] 3)).drew := ((Keeps.refl [] w).alloc _).drew
  refine hKK _ _ rfl ⟨hkA.os, hkA.tape, hkA.output, hkA.size, fun k hk _ => hkA.block k hk (by simp)⟩ ?_
  have hb0 : (w.alloc (.cells #[.int .i64 S, .int .i64 A, .int .i64 R, .int .i64 M] 3)).drew.heap[w.heap.size]? = some (.cells #[.int .i64 S, .int .i64 A, .int .i64 R, .int .i64 M] 3 (0, 0)) := heap_alloc_new w _
  have hz0 : (w.alloc (.cells #[.int .i64 S, .int .i64 A, .int .i64 R, .int .i64 M] 3)).drew.heap.size = w.heap.size + 1 := by simp
  generalize (w.alloc (.cells #[.int .i64 S, .int .i64 A, .int .i64 R, .int .i64 M] 3)).drew = w1 at *
  obtain ⟨X, hX⟩ : ∃ X, w.heap.size = X := ⟨_, rfl⟩
  rw [hX] at hb0 hz0 hbm hlt ⊢
  replace hX := Lib.hid hX
  replace hkA := Lib.hid hkA
  replace hb0 := Lib.hid hb0
  clear hKK KK
  (repeat (apply Free.cw_pure rfl rfl; (intro w'; go_simp <;> exact rfl); go_frame))
  refine Free.cw_nil ?_
  go_wp2
  go_loopw [3, 29] (fun bv iv wr => ∃ k : Nat, iv = .int .i64 k ∧ k ≤ 4 ∧ Buf wr (X + 1) bv (encHd (HL.take k)) ∧ GK w1 wr (.slice none 0 0) bv) (fun _ iv _ => 4 - (intOf iv).toNat)
  case atStart => exact ⟨0, rfl, by omega, by simpa [encHd] using Buf.nil _ _, GK.refl _ _⟩
  case round =>
    obtain ⟨k, rfl, hk, hB, hgk⟩ := hrel
    have hkr := hgk.nil hkA.out (fun b hb => by simp [Value.ownBlock] at hb)
    have hbX := (hgk.keeps.block X (by omega) (by simp [Value.ownBlock])).trans hb0.out
    by_cases hlt4 : k < 4
    · obtain ⟨x, hxk, hcx, hxl⟩ : ∃ x, HL[k]? = some x ∧ wr.cell? ⟨X, k, none⟩ = some (.int .i64 x) ∧ x ≤ 1099511627776 := by
        rw [← hHL.out]
        obtain rfl | rfl | rfl | rfl : k = 0 ∨ k = 1 ∨ k = 2 ∨ k = 3 := by omega
        · exact ⟨S, rfl, by simp [World.cell?, hbX], o1⟩
        · exact ⟨A, rfl, by simp [World.cell?, hbX], o2⟩
        · exact ⟨R, rfl, by simp [World.cell?, hbX], o3⟩
        · exact ⟨M, rfl, by simp [World.cell?, hbX], by omega⟩
      have hkl : k < HL.length := by rw [← hHL.out]; simpa using hlt4
      have hxe : HL[k] = x := by rw [List.getElem?_eq_getElem hkl] at hxk; simpa using hxk
      have hsn := encHd_snoc hkl
      rw [hxe] at hsn
      have hDl : (encHd (HL.take k)).length ≤ 36 := by
        have := encHd_len (L := HL.take k) (fun y hy => by
          have := List.mem_of_mem_take hy
          rw [← hHL.out] at this
          simp at this; omega)
        simp at this; omega
      obtain ⟨D, hD⟩ : ∃ D, encHd (HL.take k) = D := ⟨_, rfl⟩
      rw [hD] at hB hsn hDl
      obtain ⟨ab, cb, rfl⟩ := hB.form
      obtain ⟨DL, hDL⟩ : ∃ n, D.length = n := ⟨_, rfl⟩
      rw [hDL] at hB hgk hDl ⊢
      replace hB := Lib.hid hB
      replace hgk := Lib.hid hgk
      replace hkr := Lib.hid hkr
      replace hD := Lib.hid hD
      replace hDL := Lib.hid hDL
      replace hsn := Lib.hid hsn
      have hwx : IntKind.u64.wrap (x : Int) = x := by rw [IntKind.wrap_u64]; omega
      have hszr := hgk.out.keeps.size
      clear hxe hxk hbX
      go_wp2_with fail
      refine (appU_c wr (X + 1) _ D x hB.out (by omega) (by rw [hDL.out]; omega) (by omega)).mono ?_
      rintro e w2 ⟨v2, rfl, hB2, hG2⟩
      have hg2 := hgk.out.grw hG2
      rw [← hsn.out] at hB2
      replace hB2 := Lib.hid hB2
      replace hg2 := Lib.hid hg2
      clear hG2
      go_wp2
      go_roundw
      case rel => exact ⟨k + 1, rfl, by omega, hB2.out, hg2.out⟩
      case measure => simp [intOf]; omega
    · have hk4 := Lib.hid (show k = 4 by omega)
      have hall : HL.take k = HL := List.take_of_length_le (by rw [← hHL.out]; simp; omega)
      rw [hall] at hB
      have hge1 : ∀ b, u3.ownBlock = some b → X + 1 ≤ b ∧ b < wr.heap.size := fun b hb => World.ownsRow.lt hB b hb
      obtain ⟨H, hH⟩ : ∃ H, encHd HL = H := ⟨_, rfl⟩
      have hHl : H.length ≤ 36 := by
        have := encHd_len (L := HL) (fun y hy => by
          rw [← hHL.out] at hy
          simp at hy; omega)
        rw [← hHL.out] at this
        rw [← hH, ← hHL.out]
        simpa using this
      rw [hH] at hB
      obtain ⟨ab, cb, rfl⟩ := hB.form
      obtain ⟨HN, hHN⟩ : ∃ n, H.length = n := ⟨_, rfl⟩
      rw [hHN] at hB hHl hge1 ⊢
      have c4r := hkr.val c4
      have c3r := hkr.val c3
      have hszr := hgk.keeps.size
      have hmr := hme.out.keep hkr (by simp) hkr.kb0
      replace hB := Lib.hid hB
      replace hH := Lib.hid hH
      replace hHN := Lib.hid hHN
      replace hall := Lib.hid hall
      replace hkr := Lib.hid hkr
      replace hmr := Lib.hid hmr
      replace hge1 := Lib.hid hge1
      clear hgk hbX
      go_wp2_with fail
      refine (keys_c (some bm) wr).mono ?_
      rintro e w2 ⟨rfl, hw2⟩
      have hk2 : Keeps [] wr w2 := by rw [hw2]; exact (Keeps.refl [] wr).alloc _
      have hbox := heap_alloc_new wr (.cells #[.map (some bm)] 77)
      rw [← hw2] at hbox
      have hz2 : w2.heap.size = wr.heap.size + 1 := by rw [hw2]; simp
      have hm2 := hmr.out.keep hk2 (by simp) hk2.kb0
      have c4s := hk2.val c4r
      have c3s := hk2.val c3r
      obtain ⟨Y, hY⟩ : ∃ Y, wr.heap.size = Y := ⟨_, rfl⟩
      rw [hY] at hbox hz2 hge1 hszr ⊢
      replace hm2 := Lib.hid hm2
      replace hk2 := Lib.hid hk2
      replace hbox := Lib.hid hbox
      replace hY := Lib.hid hY
      clear hw2 c4r c3r hmr
      go_wp2_with fail
      refine (sortedK_c w2 Y bm n C.early E.early hm2.out EL0.out (cell1_of hbox.out).1 (by omega) (by rw [hM.out]; omega)).mono ?_
      rintro e w3 ⟨vl, rfl, hS3, hk3, hge3⟩
      rw [hM.out] at hS3
      obtain ⟨al, cl, rfl, hMl, hcm, hel3⟩ := sl_elem hS3
      have hk13 := hk2.out.trans hk3
      have hB3 := hB.out.keep hk13
      have hk03 := hkr.out.trans hk13
      have c4t := hk3.val c4s
      have c3t := hk3.val c3s
      have hz3 := hk3.size
      have hge1' := hge1.out
      rw [hz2] at hge3
      unfold maxLen at hcm
      replace hel3 := Lib.hid hel3
      replace hB3 := Lib.hid hB3
      replace hk03 := Lib.hid hk03
      replace hge3 := Lib.hid hge3
      clear hS3 hm2 hbox hk2 hk3 hk13 c4s c3s hge1' hkr hB
      go_wp2
      go_loopw [3, 45] (fun bv iv wr => ∃ k : Nat, iv = .int .i64 k ∧ k ≤ M ∧ Buf wr (X + 1) bv (H ++ encEs (E.early.take k)) ∧ GK w3 wr (.slice ab HN cb) bv) (fun _ iv _ => M - (intOf iv).toNat)
      case atStart => exact ⟨0, rfl, by omega, by simpa [encEs] using hB3.out, GK.refl _ _⟩
      case round =>
        obtain ⟨k2, rfl, hk2, hB, hgk⟩ := hrel
        have hnb : ∀ b, (Value.slice ab HN cb).ownBlock = some b → X ≤ b := fun b hb => by have := (hge1.out b hb).1; omega
        have hkw := hgk.nil hk03.out (fun b hb => by rw [hX.out]; exact hnb b hb)
        have hown : ∀ b, u3.ownBlock = some b → X + 1 ≤ b ∧ b < wr.heap.size := fun b hb => World.ownsRow.lt hB b hb
        have hszw := hgk.keeps.size
        have c4w := hkw.val (show w.cell? ⟨bc, 4, none⟩ = some (.map (some bm)) from c4o.out)
        have c3w := hkw.val (show w.cell? ⟨bc, 3, none⟩ = some (.slice ak K ck) from c3o.out)
        by_cases hltM : k2 < M
        · have hkl : k2 < E.early.length := by rw [hM.out]; exact hltM
          obtain ⟨g, o, u, rfl, hu, hcu⟩ := hel3.out k2 hltM
          have hgne : g ∉ (Value.slice ab HN cb).ownBlock.toList := fun hm => by
            have h1 := (hge1.out g (by simpa using hm)).2
            have h2 := hge3.out g rfl
            omega
          have hcw := (hgk.keeps.cell g (o + k2) (lt_of_cell hcu) hgne).trans hcu
          have hx1 := hok.out.ek _ (List.getElem_mem hkl)
          have hx2 := hok.out.ed _ (List.getElem_mem hkl)
          have hsn := encEs_snoc hkl
          have hmem : (E.early[k2].1, E.early[k2].2) ∈ E.early := List.getElem_mem hkl
          have hDl : (encEs (E.early.take k2)).length ≤ 7000009 * k2 := by
            have := encEs_len (L := E.early.take k2) (fun x hx => ⟨by have := hok.out.ek x (List.mem_of_mem_take hx); omega, hok.out.ed x (List.mem_of_mem_take hx)⟩)
            rw [List.length_take] at this
            exact Nat.le_trans this (Nat.mul_le_mul_left _ (Nat.min_le_left _ _))
          have hue : u = .int .i64 E.early[k2].1 := by rw [List.getElem?_map, List.getElem?_eq_getElem hkl] at hu; simpa using hu.symm
          rw [hue] at hcw
          have hwf := EL0.out.wf _ (List.getElem_mem hkl)
          generalize E.early[k2] = y at *
          obtain ⟨y1, ym⟩ := y
          simp only at hcw hx1 hx2 hsn hmem hwf
          obtain ⟨vy, hlook, hvy⟩ := hme.out.atS y1 hwf ym ((EL0.out.mem _ _).2 hmem)
          obtain ⟨n1, rfl⟩ : ∃ n : Nat, y1 = n := ⟨y1.toNat, by omega⟩
          rw [Int.toNat_natCast] at hsn
          have hvw := hvy.keeps hkw
          have hvlt : ym ≠ [] → ∀ b, vy.ownBlock = some b → b < X := fun hne b hb => by
            rcases hvy.cases with ⟨h0, _⟩ | ⟨g', o', c', e2, _, _, _, hg', _⟩
            · exact absurd h0 hne
            · rw [e2] at hb
              simp [Value.ownBlock] at hb
              rw [← hb, ← hX.out]; exact hg'
          obtain ⟨YL, hYL⟩ : ∃ YL, ym.length = YL := ⟨_, rfl⟩
          rw [hYL] at hx2
          obtain ⟨D, hD⟩ : ∃ D, H ++ encEs (E.early.take k2) = D := ⟨_, rfl⟩
          have hDl2 : D.length ≤ 36 + 7000009 * k2 := by rw [← hD, List.length_append]; have := hHN.out; omega
          have hfin2 : H ++ encEs (E.early.take (k2 + 1)) = D ++ encU n1 ++ encP ym := by rw [hsn, ← hD]; simp
          rw [hD] at hB
          obtain ⟨av, cv, rfl⟩ := hB.form
          obtain ⟨DN, hDN⟩ : ∃ DN, D.length = DN := ⟨_, rfl⟩
          rw [hDN] at hB hgk hown hDl2 ⊢
          have hbmw : bm < wr.heap.size := by have := hkw.size; have := hX.out; omega
          have hlk : ∀ w' : World, w'.heap[bm]? = wr.heap[bm]? → (Instr.lookup 77 (.map (some bm)) (.int .i64 n1) false).run Try.prog w' = .ok vy w' := fun w' hb => hlook w' (hb.trans (hkw.block bm (by rw [hX.out]; exact hbm) (by simp)))
          have hwn : IntKind.u64.wrap (n1 : Int) = n1 := by rw [IntKind.wrap_u64]; omega
          replace hD := Lib.hid hD
          replace hDN := Lib.hid hDN
          replace hYL := Lib.hid hYL
          replace hB := Lib.hid hB
          replace hkw := Lib.hid hkw
          replace hgk := Lib.hid hgk
          replace hown := Lib.hid hown
          replace hfin2 := Lib.hid hfin2
          replace hlk := Lib.hid hlk
          replace hvw := Lib.hid hvw
          have hvy0 := Lib.hid hvy
          replace hvlt := Lib.hid hvlt
          replace hnb := Lib.hid hnb
          clear hue hsn hDl hlook hvy hmem hwf hcu hu hgne c3w
          go_wp2
          refine Free.wp_region_chain (fun i => i == 3 || i == 10) (fun i => true) (fun _ b => X + 1 ≤ b) (by kernel_rfl) (by kernel_rfl) (by kernel_rfl) ?_
          (repeat (first | (apply Free.cw_pure rfl rfl; (intro w'; go_simp <;> exact rfl); go_frame) | (apply Free.cw_steady rfl rfl rfl; (intro w' hS2; have q4 := Free.sx_cell hS2 c4w (fun _ _ hT => by omega); have q5 := hlk.out w' (hS2.block bm hbmw (fun ⟨_, _, _, hT⟩ => by omega)); go_simp <;> exact rfl); go_frame)))
          refine Free.cw_loud rfl rfl (fun KK hKK => ?_)
          go_wp2_with fail
          refine (appU_c _ (X + 1) _ D n1 (hB.out.keep (Keeps.refl [] _).drew) (by omega) (by rw [hDN.out]; omega) (by simp; omega)).mono ?_
          rintro e w5 ⟨v5, rfl, hB5, hG5⟩
          refine hKK _ _ rfl (Free.KeepsP.of hG5.keepsO (fun b hb => (hown.out b (by simpa using hb)).1)) ?_
          clear hKK KK
          have hg5 := (hgk.out.then (Keeps.refl [] wr).drew).grw hG5
          have hs5 : wr.heap.size ≤ w5.heap.size := hG5.keepsO.size
          have hk5 : Keeps [] w w5 := hg5.nil hk03.out (fun b hb => by rw [hX.out]; exact hnb.out b hb)
          have hkb5 : KB wr w5 ∨ True := .inr trivial
          have hown5 : ∀ b, v5.ownBlock = some b → X + 1 ≤ b ∧ b < w5.heap.size := fun b hb => World.ownsRow.lt hB5 b hb
          obtain ⟨D5, hD5⟩ : ∃ x, D ++ encU n1 = x := ⟨_, rfl⟩
          have hl5 : D5.length ≤ 36 + 7000009 * k2 + 9 := by have := encU_len (n := n1) (by omega); rw [← hD5, List.length_append, hDN.out]; omega
          rw [hD5] at hB5
          replace hD5 := Lib.hid hD5
          replace hB5 := Lib.hid hB5
          replace hg5 := Lib.hid hg5
          replace hk5 := Lib.hid hk5
          replace hown5 := Lib.hid hown5
          clear hG5 hB hkb5
          (repeat (first | (apply Free.cw_pure rfl rfl; (intro w'; go_simp <;> exact rfl); go_frame) | (apply Free.cw_steady rfl rfl rfl; (intro w' hS2; have q4 := Free.sx_cell hS2 c4w (fun _ _ hT => by omega); have q5 := hlk.out w' (hS2.block bm hbmw (fun ⟨_, _, _, hT⟩ => by omega)); go_simp <;> exact rfl); go_frame)))
          refine Free.cw_loud rfl rfl (fun KK hKK => ?_)
          go_wp2_with fail
          refine (appP_c _ (X + 1) v5 vy D5 ym (hB5.out.keep (Keeps.refl [] _)) (hvy0.out.keeps hk5.out) (fun hne b hb e => by have := hvlt.out hne b hb; have := (hown5.out b e).1; omega) (by rw [hYL.out]; omega) (by omega)).mono ?_
          rintro e w6 ⟨v6, rfl, hB6, hG6⟩
          refine hKK _ _ rfl (Free.KeepsP.of hG6.keeps (fun b hb => (hown5.out b (by simpa using hb)).1)) ?_
          clear hKK KK
          have hg6 := hg5.out.trans hG6
          rw [← hD5.out, ← hfin2.out] at hB6
          replace hB6 := Lib.hid hB6
          replace hg6 := Lib.hid hg6
          clear hG6 hB5 hg5
          (repeat (apply Free.cw_pure rfl rfl; (intro w'; go_simp <;> exact rfl); go_frame))
          refine Free.cw_nil ?_
          go_wp2
          go_roundw
          case rel => exact ⟨k2 + 1, rfl, by omega, hB6.out, hg6.out⟩
          case measure => simp [intOf]; omega
        · have hkM := Lib.hid (show k2 = M by omega)
          have hallE : E.early.take k2 = E.early := List.take_of_length_le (by rw [hM.out]; omega)
          rw [hallE] at hB
          have hEl : (encEs E.early).length ≤ 7000009 * 1000000 := by
            have := encEs_len (L := E.early) (fun x hx => ⟨by have := hok.out.ek x hx; omega, hok.out.ed x hx⟩)
            rw [hM.out] at this; omega
          obtain ⟨G, hG⟩ : ∃ G, H ++ encEs E.early = G := ⟨_, rfl⟩
          have hGl : G.length ≤ 36 + 7000009 * 1000000 := by rw [← hG, List.length_append]; have := hHN.out; omega
          rw [hG] at hB
          obtain ⟨av, cv, rfl⟩ := hB.form
          obtain ⟨GN, hGN⟩ : ∃ GN, G.length = GN := ⟨_, rfl⟩
          rw [hGN] at hB hgk hown hGl ⊢
          have hnw : ∀ b, (Value.slice av GN cv).ownBlock = some b → X ≤ b := fun b hb => by have := (hown b hb).1; omega
          replace hallE := Lib.hid hallE
          replace hB := Lib.hid hB
          replace hkw := Lib.hid hkw
          replace hgk := Lib.hid hgk
          replace hown := Lib.hid hown
          replace hG := Lib.hid hG
          replace hGN := Lib.hid hGN
          replace hnw := Lib.hid hnw
          clear hEl hnb
          obtain ⟨wo, hwo⟩ : ∃ wo : World, wo = wr := ⟨_, rfl⟩
          rw [← hwo] at hB hkw hgk hown c3w c4w hszw ⊢
          clear hwo wr
          go_wp2
          go_loopw [3, 66] (fun bv iv wr => ∃ k : Nat, iv = .int .i64 k ∧ k ≤ K ∧ Buf wr (X + 1) bv (G ++ encKs (E.kept.take k)) ∧ GK wo wr (.slice av GN cv) bv) (fun _ iv _ => K - (intOf iv).toNat)
          case atStart => exact ⟨0, rfl, by omega, by simpa [encKs] using hB.out, GK.refl _ _⟩
          case round =>
            obtain ⟨j, rfl, hj, hC, hgj⟩ := hrel
            have hkj := hgj.nil hkw.out (fun b hb => by rw [hX.out]; exact hnw.out b hb)
            have hownj : ∀ b, u3.ownBlock = some b → X + 1 ≤ b ∧ b < wr.heap.size := fun b hb => World.ownsRow.lt hC b hb
            have hszj := hgj.keeps.size
            by_cases hltj : j < K
            · have hkl : j < E.kept.length := by rw [hK.out]; exact hltj
              obtain ⟨g, o, ad, cp, rfl, y0, hY⟩ := hel.out j hkl
              have y0w := hkj.val y0
              have hYw := hY.keeps hkj
              have hx2 := hok.out.kd _ (List.getElem_mem hkl)
              have hsn := encKs_snoc hkl
              have hDl : (encKs (E.kept.take j)).length ≤ 7000000 * j := by
                have := encKs_len (L := E.kept.take j) (fun x hx => hok.out.kd x (List.mem_of_mem_take hx))
                rw [List.length_take] at this
                exact Nat.le_trans this (Nat.mul_le_mul_left _ (Nat.min_le_left _ _))
              generalize E.kept[j] = ym at *
              have hvlt : ym ≠ [] → ∀ b, (Value.slice ad ym.length cp).ownBlock = some b → b < X := fun hne b hb => by
                rcases hY.cases with ⟨h0, _⟩ | ⟨g', o', c', e2, _, _, _, hg', _⟩
                · exact absurd h0 hne
                · rw [e2] at hb
                  simp [Value.ownBlock] at hb
                  rw [← hb, ← hX.out]; exact hg'
              obtain ⟨YL, hYL⟩ : ∃ YL, ym.length = YL := ⟨_, rfl⟩
              rw [hYL] at hYw hx2 y0w hvlt
              obtain ⟨D, hD⟩ : ∃ D, G ++ encKs (E.kept.take j) = D := ⟨_, rfl⟩
              have hDl2 : D.length ≤ 36 + 7000009 * 1000000 + 7000000 * j := by rw [← hD, List.length_append]; have := hGN.out; omega
              have hfin2 : G ++ encKs (E.kept.take (j + 1)) = D ++ encP ym := by rw [hsn, ← hD]; simp
              rw [hD] at hC
              replace hD := Lib.hid hD
              replace hYL := Lib.hid hYL
              replace hC := Lib.hid hC
              replace hkj := Lib.hid hkj
              replace hgj := Lib.hid hgj
              replace hYw := Lib.hid hYw
              replace hY := Lib.hid hY
              replace hfin2 := Lib.hid hfin2
              replace hvlt := Lib.hid hvlt
              replace hownj := Lib.hid hownj
              clear hsn hDl y0 c3w
              go_wp2_with fail
              refine (appP_c _ (X + 1) _ _ D ym hC.out hYw.out (fun hne b hb e => by have := hvlt.out hne b hb; have := (hownj.out b e).1; omega) (by rw [hYL.out]; omega) (by omega)).mono ?_
              rintro e w6 ⟨v6, rfl, hB6, hG6⟩
              have hg6 := hgj.out.trans hG6
              rw [← hfin2.out] at hB6
              replace hB6 := Lib.hid hB6
              replace hg6 := Lib.hid hg6
              clear hG6 hC
              go_wp2
              go_roundw
              case rel => exact ⟨j + 1, rfl, by omega, hB6.out, hg6.out⟩
              case measure => simp [intOf]; omega
            · have hjK := Lib.hid (show j = K by omega)
              have hallj : E.kept.take j = E.kept := List.take_of_length_le (by rw [hK.out]; omega)
              rw [hallj] at hC
              replace hallj := Lib.hid hallj
              replace hC := Lib.hid hC
              replace hkj := Lib.hid hkj
              replace hgj := Lib.hid hgj
              replace hownj := Lib.hid hownj
              go_wp2
              go_ret
              refine ⟨_, rfl, ?_, hkj.out⟩
              have hfinal := hC.out
              rw [← hG.out, ← hH.out] at hfinal
              exact (hfinal.mono (by rw [hX.out]; omega))
end Go.Proofs.Ytilmcdieihmiaaa

namespace Go.Proofs.Ytilmcdieihmiaaa
open Go.RowKit

def RrS (w : World) (br D : Nat) (s : RS) : Prop := ∃ v, RdR w br v s.1 s.2 ∧ ∀ b, v.ownBlock = some b → b = D
variable {D : Nat}
theorem RrS.keeps {w w' : World} {br : Nat} {s : RS} (h : RrS w br D s) (hk : Keeps [] w w') : RrS w' br D s := by obtain ⟨v, h, ho⟩ := h; exact ⟨v, h.keeps hk, ho⟩
theorem RrS.lt {w : World} {br : Nat} {s : RS} (h : RrS w br D s) : br < w.heap.size := by obtain ⟨v, h, _⟩ := h; exact (cell2_of h.1).2.2.2.2
theorem RrS.keepS {w w' : World} {br : Nat} {s : RS} {S : List Nat} (h : RrS w br D s) (hk : Keeps S w w') (h1 : br ∉ S) (h2 : D ∉ S) : RrS w' br D s := by
  obtain ⟨v, h, ho⟩ := h
  refine ⟨v, ⟨(hk.block br (cell2_of h.1).2.2.2.2 h1).trans h.1, ?_⟩, ho⟩
  obtain ⟨e1, a, cap, rfl, e2, e3, e0, e4⟩ := h.2
  refine ⟨e1, a, cap, rfl, e2, e3, e0, fun hp => ?_⟩
  obtain ⟨g, o, rfl, hc⟩ := e4 hp
  refine ⟨g, o, rfl, fun j u hu => ?_⟩
  have hg := hc j u hu
  have hgD : g = D := ho g rfl
  rw [hk.cell g (o + j) (lt_of_cell hg) (by rw [hgD]; exact h2)]
  exact hg
set_option maxRecDepth 100000 in
set_option maxHeartbeats 1000000 in
theorem uintR_err (w : World) (br : Nat) (v : Value) (l : List UInt8) (e : Int) (h : RdR w br v l e) (he : e ≠ 0) :
    Calls Try.prog 50 #[.pointer (some ⟨br, 0, none⟩)] w fun en w' => en = .returned (.int .u64 0) ∧ w = w' := by
  obtain ⟨c0, c1, f0, f1, hlt⟩ := cell2_of h.1
  have he2 : (e == 0) = false := by simp [he]
  clear h he
  go_enter Try.func50, Try.ntmps50
  go_wp2
  go_ret
  exact ⟨rfl, rfl⟩
theorem uintRS_c (w : World) (br : Nat) (s : RS) (h : RrS w br D s) :
    Calls Try.prog 50 #[.pointer (some ⟨br, 0, none⟩)] w fun en w' => en = .returned (.int .u64 (rU s).1) ∧ RrS w' br D (rU s).2 ∧ Keeps [br] w w' := by
  obtain ⟨l, e⟩ := s
  obtain ⟨v, h, ho⟩ := h
  by_cases he : e = 0
  · subst he
    refine (uintR_cO w br v l h).mono fun en w' ⟨h1, ⟨v', h2, h4⟩, h3⟩ => ?_
    have : rU (l, 0) = ((rdU l).1, ((rdU l).2.1, (rdU l).2.2)) := by
      cases hx : readU l with
      | none => simp [rU, rdU, hx]
      | some p => obtain ⟨x, r⟩ := p; simp [rU, rdU, hx]
    rw [this]
    exact ⟨h1, ⟨v', h2, fun b hb => ho b (h4 b hb)⟩, h3⟩
  · refine (uintR_err w br v l e h he).mono fun en w' ⟨h1, h2⟩ => ?_
    subst h2
    rw [show rU (l, e) = (0, (l, e)) by unfold rU; rw [if_neg he]]
    exact ⟨h1, ⟨v, h, ho⟩, Keeps.refl _ _⟩
set_option maxRecDepth 100000 in
set_option maxHeartbeats 2000000 in
theorem countRS_c (w : World) (br : Nat) (l : List UInt8) (h : RrS w br D (l, 0)) :
    Calls Try.prog 61 #[.pointer (some ⟨br, 0, none⟩), .int .i64 1024] w fun en w' => en = .returned (.int .i64 (rC l).1) ∧ RrS w' br D (rC l).2 ∧ Keeps [br] w w' := by
  replace h := Lib.hid h
  cases hr : readU l with
  | none =>
    rw [show rC l = (0, ([], 11)) by unfold rC; simp only [hr]]
    have hu : rU (l, 0) = (0, ([], 11)) := by unfold rU; rw [if_pos rfl]; simp only [hr]
    replace hu := Lib.hid hu
    clear hr
    go_enter Try.func61, Try.ntmps61
    go_wp2_with fail
    refine (uintRS_c w br _ h.out).mono ?_
    rintro e w1 ⟨rfl, hR1, hk1⟩
    rw [show (rU (l, 0)).2 = ([], 11) from by rw [hu.out]] at hR1
    rw [show (rU (l, 0)).1 = 0 from by rw [hu.out]]
    obtain ⟨v1, hR1, ho1⟩ : ∃ v, RdR w1 br v [] 11 ∧ ∀ b, v.ownBlock = some b → b = D := hR1
    replace ho1 := Lib.hid ho1
    obtain ⟨c0, c1, f0, f1, hlt⟩ := cell2_of hR1.1
    replace hR1 := Lib.hid hR1
    replace hk1 := Lib.hid hk1
    go_wp2
    go_ret
    exact ⟨rfl, ⟨_, hR1.out, ho1.out⟩, hk1.out⟩
  | some p =>
    obtain ⟨n, r⟩ := p
    have hrc : rC l = if cE n r = 0 then (n, (r, 0)) else (0, ([], cE n r)) := by unfold rC; simp only [hr]
    have hu : rU (l, 0) = (n, (r, 0)) := by unfold rU; rw [if_pos rfl]; simp only [hr]
    have hn := readU_lt hr
    replace hu := Lib.hid hu
    replace hrc := Lib.hid hrc
    clear hr
    go_enter Try.func61, Try.ntmps61
    go_wp2_with fail
    refine (uintRS_c w br _ h.out).mono ?_
    rintro e w1 ⟨rfl, hR1, hk1⟩
    rw [show (rU (l, 0)).2 = (r, 0) from by rw [hu.out]] at hR1
    rw [show (rU (l, 0)).1 = n from by rw [hu.out]]
    obtain ⟨v1, hR1, ho1⟩ : ∃ v, RdR w1 br v r 0 ∧ ∀ b, v.ownBlock = some b → b = D := hR1
    replace ho1 := Lib.hid ho1
    obtain ⟨c0, c1, f0, f1, hlt⟩ := cell2_of hR1.1
    obtain ⟨a1, cp1, rfl⟩ := hR1.2.form
    have hmx := hR1.2.cap
    have hF := fun x => failR_c w1 br _ _ 0 x hR1
    have hcE : cE n r = if 1024 < n then 8 else if r.length < n then 11 else 0 := rfl
    obtain ⟨N, hN⟩ : ∃ N, r.length = N := ⟨_, rfl⟩
    rw [hN] at c0 hmx hcE
    have hNN : (N : Int) ≤ 9223372036854775807 := by unfold maxLen at hmx; omega
    have hwr : IntKind.u64.wrap (N : Int) = N := by rw [IntKind.wrap_u64]; omega
    replace hN := Lib.hid hN
    replace hcE := Lib.hid hcE
    replace hF := Lib.hid hF
    replace hR1 := Lib.hid hR1
    replace hk1 := Lib.hid hk1
    by_cases hbig : 1024 < n
    · have hd : (1024 : Int) < (n : Int) := by omega
      go_wp2_with fail
      refine (hF.out 8).mono ?_
      rintro e w2 ⟨rfl, hR2, hk2⟩
      replace hk2 := hk1.out.trans hk2
      replace hR2 := Lib.hid hR2
      replace hk2 := Lib.hid hk2
      go_wp2
      go_ret
      rw [hrc.out, hcE.out, if_pos hbig, if_neg (by decide)]
      exact ⟨rfl, ⟨_, hR2.out, fun b hb => by cases hb⟩, hk2.out⟩
    · have hd : decide ((1024 : Int) < (n : Int)) = false := by simp; omega
      by_cases hb2 : N < n
      · have hd2 : (N : Int) < (n : Int) := by omega
        go_wp2_with fail
        refine (hF.out 11).mono ?_
        rintro e w2 ⟨rfl, hR2, hk2⟩
        replace hk2 := hk1.out.trans hk2
        replace hR2 := Lib.hid hR2
        replace hk2 := Lib.hid hk2
        go_wp2
        go_ret
        rw [hrc.out, hcE.out, if_neg hbig, if_pos hb2, if_neg (by decide)]
        exact ⟨rfl, ⟨_, hR2.out, fun b hb => by cases hb⟩, hk2.out⟩
      · have hd2 : decide ((N : Int) < (n : Int)) = false := by simp; omega
        go_wp2
        go_ret
        rw [hrc.out, hcE.out, if_neg hbig, if_neg hb2, if_pos rfl]
        exact ⟨rfl, ⟨_, hR1.out, ho1.out⟩, hk1.out⟩
set_option maxRecDepth 100000 in
set_option maxHeartbeats 2000000 in
theorem countR_err (w : World) (br : Nat) (s : RS) (h : RrS w br D s) (he : s.2 ≠ 0) :
    Calls Try.prog 61 #[.pointer (some ⟨br, 0, none⟩), .int .i64 1024] w fun en w' => en = .returned (.int .i64 0) ∧ RrS w' br D s ∧ Keeps [br] w w' := by
  have hu : rU s = (0, s) := by unfold rU; rw [if_neg he]
  replace h := Lib.hid h
  replace hu := Lib.hid hu
  go_enter Try.func61, Try.ntmps61
  go_wp2_with fail
  refine (uintRS_c w br _ h.out).mono ?_
  rintro e w1 ⟨rfl, hR1, hk1⟩
  rw [hu.out] at hR1 ⊢
  simp only at hR1 ⊢
  obtain ⟨l, e⟩ := s
  obtain ⟨v1, hR1, ho1⟩ := hR1
  obtain ⟨c0, c1, f0, f1, hlt⟩ := cell2_of hR1.1
  simp only at c1 he
  have he2 : (e == 0) = false := by simp [he]
  replace hR1 := Lib.hid hR1
  replace ho1 := Lib.hid ho1
  replace hk1 := Lib.hid hk1
  replace he := Lib.hid he
  go_wp2
  go_ret
  exact ⟨rfl, ⟨v1, hR1.out, ho1.out⟩, hk1.out⟩
set_option maxRecDepth 100000 in
set_option maxHeartbeats 1000000 in
theorem doneRS_c (w : World) (br : Nat) (s : RS) (h : RrS w br D s) :
    Calls Try.prog 63 #[.pointer (some ⟨br, 0, none⟩)] w fun en w' => en = .returned (.int .i64 (doneE s.1 s.2)) ∧ w = w' := by
  obtain ⟨v, h, _⟩ := h
  obtain ⟨l, e⟩ := s
  obtain ⟨c0, c1, f0, f1, hlt⟩ := cell2_of h.1
  obtain ⟨a0, cap0, rfl⟩ := h.2.form
  clear h
  by_cases he : e = 0
  · subst he
    by_cases hl : l = []
    · subst hl
      go_enter Try.func63, Try.ntmps63
      go_wp2
      go_ret
      exact ⟨by simp [doneE], rfl⟩
    · have hp : 0 < l.length := List.length_pos_iff.2 hl
      replace hl := Lib.hid hl
      go_enter Try.func63, Try.ntmps63
      go_wp2
      go_ret
      exact ⟨by simp [doneE, hl.out], rfl⟩
  · have he2 : (e == 0) = false := by simp [he]
    replace he := Lib.hid he
    go_enter Try.func63, Try.ntmps63
    go_wp2
    go_ret
    exact ⟨by simp [doneE, he.out], rfl⟩
end Go.Proofs.Ytilmcdieihmiaaa

namespace Go.Proofs.Ytilmcdieihmiaaa
open Go.RowKit

set_option maxRecDepth 100000 in
set_option maxHeartbeats 4000000 in
theorem stringRS_c {D : Nat} (w : World) (br : Nat) (s : RS) (h : RrS w br D s) :
    Calls Try.prog 79 #[.pointer (some ⟨br, 0, none⟩)] w fun en w' => en = .returned (.string (str (rS s).1)) ∧ RrS w' br D (rS s).2 ∧ Keeps [br] w w' := by
  have hrs : rS s = if (rU s).2.2 = 0 then (if sE (rU s).1 (rU s).2.1 = 0 then ((rU s).2.1.take (rU s).1, ((rU s).2.1.drop (rU s).1, 0)) else ([], ([], sE (rU s).1 (rU s).2.1))) else ([], (rU s).2) := rfl
  replace h := Lib.hid h
  replace hrs := Lib.hid hrs
  go_enter Try.func79, Try.ntmps79
  go_wp2_with fail
  refine (uintRS_c w br s h.out).mono ?_
  rintro e w1 ⟨rfl, hR1, hk1⟩
  replace hrs := hrs.out
  obtain ⟨n, hn⟩ : ∃ n, (rU s).1 = n := ⟨_, rfl⟩
  obtain ⟨⟨l, e⟩, hs1⟩ : ∃ t, (rU s).2 = t := ⟨_, rfl⟩
  rw [hn]
  rw [hn, hs1] at hrs
  rw [hs1] at hR1
  obtain ⟨v1, hR1, ho1⟩ := hR1
  replace ho1 := Lib.hid ho1
  simp only at hR1 hrs
  clear hn hs1
  obtain ⟨c0, c1, f0, f1, hlt⟩ := cell2_of hR1.1
  obtain ⟨av, cp, rfl⟩ := hR1.2.form
  have hmx := hR1.2.cap
  have hF := fun x => failR_c w1 br _ _ e x hR1
  by_cases he : e = 0
  · subst he
    rw [if_pos rfl] at hrs
    obtain ⟨N, hN⟩ : ∃ N, l.length = N := ⟨_, rfl⟩
    have hsE : sE n l = if 4096 < n then 8 else if l.length < n then 11 else 0 := rfl
    rw [hN] at c0 hmx hsE
    have hNN : (N : Int) ≤ 9223372036854775807 := by unfold maxLen at hmx; omega
    have hwr : IntKind.u64.wrap (N : Int) = N := by rw [IntKind.wrap_u64]; omega
    by_cases hbig : 4096 < n
    · have hd : (4096 : Int) < (n : Int) := by omega
      rw [if_pos hbig] at hsE
      rw [if_neg (by rw [hsE]; decide), hsE] at hrs
      replace hrs := Lib.hid hrs
      replace hF := Lib.hid hF
      replace hR1 := Lib.hid hR1
      replace hk1 := Lib.hid hk1
      replace hN := Lib.hid hN
      clear hsE
      go_wp2_with fail
      refine (hF.out 8).mono ?_
      rintro e w2 ⟨rfl, hR2, hk2⟩
      replace hk2 := hk1.out.trans hk2
      replace hR2 := Lib.hid hR2
      replace hk2 := Lib.hid hk2
      go_wp2
      go_ret
      rw [hrs.out]
      exact ⟨rfl, ⟨_, hR2.out, fun b hb => by cases hb⟩, hk2.out⟩
    · have hd : decide ((4096 : Int) < (n : Int)) = false := by simp; omega
      rw [if_neg hbig] at hsE
      by_cases hb2 : N < n
      · have hd2 : (N : Int) < (n : Int) := by omega
        rw [if_pos hb2] at hsE
        rw [if_neg (by rw [hsE]; decide), hsE] at hrs
        replace hrs := Lib.hid hrs
        replace hF := Lib.hid hF
        replace hR1 := Lib.hid hR1
        replace hk1 := Lib.hid hk1
        replace hN := Lib.hid hN
        clear hsE
        go_wp2_with fail
        refine (hF.out 11).mono ?_
        rintro e w2 ⟨rfl, hR2, hk2⟩
        replace hk2 := hk1.out.trans hk2
        replace hR2 := Lib.hid hR2
        replace hk2 := Lib.hid hk2
        go_wp2
        go_ret
        rw [hrs.out]
        exact ⟨rfl, ⟨_, hR2.out, fun b hb => by cases hb⟩, hk2.out⟩
      · have hd2 : decide ((N : Int) < (n : Int)) = false := by simp; omega
        rw [if_neg hb2] at hsE
        rw [if_pos hsE] at hrs
        have hS0 := hR1.2
        rw [hN] at hS0
        obtain ⟨hcp, hSi, hSt⟩ := slice_parts hS0 hN (n := n) (by omega)
        have hl1 : (n : Int) ≤ N := by omega
        have hl2 : (n : Int) ≤ cp := by omega
        have hl0 : n ≤ N := by omega
        have hr := run_str hSi
        replace hrs := Lib.hid hrs
        have hR1N := hR1.1
        rw [hN] at hR1N
        replace hR1N := Lib.hid hR1N
        replace hk1 := Lib.hid hk1
        replace hN := Lib.hid hN
        have fin : ∀ v2, SlB w1 v2 (l.drop n) → (∀ b, v2.ownBlock = some b → b = D) → RrS (w1.setCell ⟨br, 0, none⟩ v2) br D (l.drop n, 0) ∧ Keeps [br] w (w1.setCell ⟨br, 0, none⟩ v2) := fun v2 hv ho2 => by
          obtain ⟨a2, c2, rfl⟩ := hv.form
          exact ⟨⟨_, ⟨set2_0 hR1N.out _, hv.kb (KB.setCell w1 _ (cell2_of hR1N.out).1 (by simp))⟩, ho2⟩, hk1.out.setCell (.inr (by simp)) _⟩
        replace fin := Lib.hid fin
        clear hsE hF hR1 hS0 hSi
        by_cases hc : cp = n
        · rw [if_pos hc] at hSt
          subst hc
          replace hSt := Lib.hid hSt
          go_wp2
          go_ret
          rw [hrs.out]
          have := hSt.out
          rw [show N - cp = 0 by omega, Nat.sub_self] at this
          exact ⟨rfl, fin.out _ this (fun b hb => ho1.out b (by cases av <;> exact hb))⟩
        · rw [if_neg hc] at hSt
          replace hSt := Lib.hid hSt
          go_wp2
          go_ret
          rw [hrs.out]
          refine ⟨rfl, fin.out _ hSt.out (fun b hb => ?_)⟩
          cases av with
          | none => cases hb
          | some ad =>
            refine ho1.out b ?_
            simp [Value.ownBlock, Addr.add] at hb ⊢
            split at hb <;> exact hb
  · rw [if_neg he] at hrs
    have he2 : (e == 0) = false := by simp [he]
    replace hrs := Lib.hid hrs
    replace hR1 := Lib.hid hR1
    replace hk1 := Lib.hid hk1
    replace he := Lib.hid he
    clear hF
    go_wp2
    go_ret
    rw [hrs.out]
    exact ⟨rfl, ⟨_, hR1.out, ho1.out⟩, hk1.out⟩
end Go.Proofs.Ytilmcdieihmiaaa

namespace Go.Proofs.Ytilmcdieihmiaaa
open Go.RowKit

variable {D : Nat}
/-- What the reading of the pieces gives: whether it went well, the payload, the reader's state. -/
def rprR : Nat → RS → List UInt8 → Bool × List UInt8 × RS
  | 0, s, acc => (true, acc, s)
  | m + 1, s, acc => if (rS s).2.2 ≠ 0 ∨ (rS s).1 = [] ∨ (0 < m ∧ (rS s).1.length < 4096) then (false, acc, (rS s).2) else rprR m (rS s).2 (acc ++ (rS s).1)
theorem rprR_succ (m : Nat) (s : RS) (acc : List UInt8) : rprR (m + 1) s acc = if (rS s).2.2 ≠ 0 ∨ (rS s).1 = [] ∨ (0 < m ∧ (rS s).1.length < 4096) then (false, acc, (rS s).2) else rprR m (rS s).2 (acc ++ (rS s).1) := rfl
def readR (s : RS) : Bool × List UInt8 × RS := if s.2 = 0 then rprR (rC s.1).1 (rC s.1).2 [] else (true, [], s)
structure PayR (w wr : World) (B br D : Nat) (R : Bool × List UInt8 × RS) (N k : Nat) (v : Value) (s : RS) (acc : List UInt8) : Prop where
  buf : Buf wr B v acc
  rd : RrS wr br D s
  eq : R = rprR (N - k) s acc
  len : acc.length ≤ k * 4096
  keeps : Keeps [br] w wr
set_option maxRecDepth 100000 in
set_option maxHeartbeats 4000000 in
theorem read_c (w : World) (br : Nat) (s : RS) (h : RrS w br D s) (hD : D < w.heap.size) :
    Calls Try.prog 62 #[.pointer (some ⟨br, 0, none⟩)] w fun en w' => ∃ v, en = .returned (.tuple #[v, .bool (readR s).1]) ∧ Buf w' w.heap.size v (readR s).2.1 ∧ RrS w' br D (readR s).2.2 ∧ Keeps [br] w w' := by
  have hbr := h.lt
  obtain ⟨N, s0, hN, hP, hcnt⟩ : ∃ N s0, N ≤ 1024 ∧ readR s = rprR N s0 [] ∧ Calls Try.prog 61 #[.pointer (some ⟨br, 0, none⟩), .int .i64 1024] w fun en w' => en = .returned (.int .i64 (N : Nat)) ∧ RrS w' br D s0 ∧ Keeps [br] w w' := by
    obtain ⟨l, e⟩ := s
    by_cases he : e = 0
    · subst he
      exact ⟨(rC l).1, (rC l).2, rC_le l, by unfold readR; rw [if_pos rfl], countRS_c w br l h⟩
    · exact ⟨0, (l, e), by omega, by unfold readR; rw [if_neg he]; rfl, countR_err w br (l, e) h he⟩
  replace h := Lib.hid h
  replace hcnt := Lib.hid hcnt
  go_enter Try.func62, Try.ntmps62
  go_wp2_with fail
  refine hcnt.out.mono ?_
  rintro e w1 ⟨rfl, hR1, hk1⟩
  have hkA : Keeps [] w1 (w1.alloc (.cells #[] 5)) := (Keeps.refl [] w1).alloc _
  have hsz1 := hk1.size
  have hI : PayR w (w1.alloc (.cells #[] 5)) w.heap.size br D (readR s) N 0 (.slice (some ⟨w1.heap.size, 0, none⟩) 0 0) s0 [] := ⟨(Buf.fresh w1).mono hsz1, hR1.keeps hkA, hP, by simp, hk1.trans hkA.of_nil⟩
  have hbx : w.heap.size ≤ (w1.alloc (.cells #[] 5)).heap.size := by simp; omega
  replace hP := Lib.hid hP
  replace hI := Lib.hid hI
  clear hR1 hk1 hkA
  go_wp2
  go_loopw [5, 6] (fun ov iv wr => ∃ (k : Nat) (s1 : RS) (acc : List UInt8), iv = .int .i64 k ∧ k ≤ N ∧ PayR w wr w.heap.size br D (readR s) N k ov s1 acc) (fun _ iv _ => N - (intOf iv).toNat)
  case atStart => exact ⟨0, s0, [], rfl, by omega, hI.out⟩
  case round =>
    obtain ⟨k, sk, acc, rfl, hk, hI2⟩ := hrel
    clear hI
    obtain ⟨ao, co, hov⟩ := hI2.buf.form
    subst hov
    obtain ⟨AL, hAL⟩ : ∃ n, acc.length = n := ⟨_, rfl⟩
    rw [hAL] at hI2
    by_cases hlt : k < N
    · have hI3 := Lib.hid hI2
      clear hI2
      go_wp2_with fail
      refine (stringRS_c wr br sk hI3.out.rd).mono ?_
      rintro e wa ⟨rfl, hRa, hka⟩
      have hsucc : N - k = (N - (k + 1)) + 1 := by omega
      have heq := hI3.out.eq
      rw [hsucc, rprR_succ] at heq
      have hxl := rS_len sk
      obtain ⟨x, hx⟩ : ∃ x, (rS sk).1 = x := ⟨_, rfl⟩
      obtain ⟨⟨l1, E⟩, hs1⟩ : ∃ x, (rS sk).2 = x := ⟨_, rfl⟩
      rw [hx, hs1] at heq
      rw [hx] at hxl
      rw [hs1] at hRa
      rw [hx]
      simp only at heq
      have hbuf := hI3.out.buf.keepS hka (by simp; exact hbr)
      have hkr := hI3.out.keeps.trans hka
      have hlen := hI3.out.len
      have hszr := hkr.size
      obtain ⟨v1, hR1, _⟩ := id hRa
      obtain ⟨c0, c1, f0, f1, hlt1⟩ := cell2_of hR1.1
      simp only at c1
      replace hbuf := Lib.hid hbuf
      replace hkr := Lib.hid hkr
      replace hRa := Lib.hid hRa
      clear hx hs1 hI3 hka hsucc hR1 c0 f0 f1
      obtain ⟨XL, hXL⟩ : ∃ n, x.length = n := ⟨_, rfl⟩
      have hsx : (str x).size = XL := hXL
      by_cases hE0 : E = 0
      · subst hE0
        by_cases hxe : x = []
        · rw [if_pos (.inr (.inl hxe))] at heq
          have hXL0 : ((XL : Int) == 0) = true := by simp; rw [← hXL, hxe]; rfl
          replace heq := Lib.hid heq
          replace hxe := Lib.hid hxe
          go_wp2
          go_ret2
          rw [heq.out]
          exact ⟨_, rfl, by rw [hAL] at *; exact hbuf.out, hRa.out, hkr.out⟩
        · have hXL0 : ((XL : Int) == 0) = false := by
            have := List.length_pos_iff.2 hxe
            simp; omega
          by_cases hbad : 0 < N - (k + 1) ∧ x.length < 4096
          · rw [if_pos (.inr (.inr hbad))] at heq
            have hk1 : (k : Int) < (N : Int) - 1 := by omega
            have hx4 : (XL : Int) < 4096 := by omega
            replace heq := Lib.hid heq
            replace hbad := Lib.hid hbad
            replace hxe := Lib.hid hxe
            go_wp2
            go_ret2
            rw [heq.out]
            exact ⟨_, rfl, hbuf.out, hRa.out, hkr.out⟩
          · rw [if_neg (by simp only [not_or]; exact ⟨by simp, hxe, hbad⟩)] at heq
            have hok : (∃ _ : (k : Int) < (N : Int) - 1, ¬ (XL : Int) < 4096) ∨ ∃ _ : ¬ (k : Int) < (N : Int) - 1, True := by
              by_cases hc : (k : Int) < (N : Int) - 1
              · refine .inl ⟨hc, ?_⟩
                have : ¬ x.length < 4096 := fun h => hbad ⟨by omega, h⟩
                omega
              · exact .inr ⟨hc, trivial⟩
            replace heq := Lib.hid heq
            replace hbad := Lib.hid hbad
            replace hxe := Lib.hid hxe
            replace hXL := Lib.hid hXL
            rw [hXL.out] at hxl
            have hbase : w.heap.size ≤ wa.heap.size := hszr
            have fin : ∀ v2 w2, Buf w2 w.heap.size v2 (acc ++ x) → wa.grownBy w2 (Value.slice ao AL co).ownBlock → PayR w w2 w.heap.size br D (readR s) N (k + 1) v2 (l1, 0) (acc ++ x) := fun v2 w2 hB2 hg2 => by
              have hown : ∀ b, (Value.slice ao AL co).ownBlock = some b → w.heap.size ≤ b := fun b hb => ownBlock_ge hbuf.out b hb
              have hk2 : Keeps (Value.slice ao AL co).ownBlock.toList wa w2 := ⟨hg2.os, hg2.tape, hg2.output, hg2.size, fun i hi hn => hg2.block i hi (fun e => hn (by rw [← e]; simp))⟩
              refine ⟨hB2, hRa.out.keepS hk2 (fun hm => ?_) (fun hm => ?_), heq.out, by rw [List.length_append, hXL.out]; omega, hkr.out.fresh hk2 (fun b hb => .inr (hown b (by simpa using hb)))⟩
              · have := hown br (by simpa using hm); omega
              · have := hown D (by simpa using hm); omega
            replace fin := Lib.hid fin
            rcases hok with ⟨hc, hx4⟩ | ⟨hc, _⟩
            all_goals
              go_wp2_with (
                at_builtin
                refine wpl_appS wa w.heap.size (.slice ao AL co) acc rfl _ _ rfl rfl x rfl hbuf.out (by rw [hAL, hXL.out]; omega) hbase ?_
                intro v2 w2 hB2 hg2
                have hI9 := fin.out v2 w2 hB2 hg2
                obtain ⟨a2, c2, rfl⟩ := hB2.form
                replace hI9 := Lib.hid hI9
                clear hB2 hg2)
              go_roundw
              case rel => exact ⟨k + 1, (l1, 0), acc ++ x, rfl, by omega, by have := hI9.out; rw [List.length_append, hAL] at this; exact this⟩
              case measure => simp [intOf]; omega
      · rw [if_pos (.inl hE0)] at heq
        have hEb : (E == 0) = false := by simp [hE0]
        replace heq := Lib.hid heq
        replace hE0 := Lib.hid hE0
        go_wp2
        go_ret2
        rw [heq.out]
        exact ⟨_, rfl, hbuf.out, hRa.out, hkr.out⟩
    · have hkN : k = N := by omega
      subst hkN
      have heq := hI2.eq
      rw [Nat.sub_self] at heq
      replace heq : readR s = (true, acc, sk) := heq
      have hI3 := Lib.hid hI2
      clear hI2
      replace heq := Lib.hid heq
      go_wp2
      go_ret2
      rw [heq.out]
      exact ⟨_, rfl, by have := hI3.out.buf; rw [← hAL] at this; exact this, hI3.out.rd, hI3.out.keeps⟩
end Go.Proofs.Ytilmcdieihmiaaa

namespace Go.Proofs.Ytilmcdieihmiaaa
open Go.RowKit

variable {D : Nat}
/-- An error leaves no bytes. -/
def Gd (s : RS) : Prop := s.2 = 0 ∨ s.1 = []
theorem rU_gd {s : RS} (h : Gd s) : Gd (rU s).2 := by
  unfold rU
  split
  · split
    · exact .inl rfl
    · exact .inr rfl
  · exact h
theorem rC_gd (l : List UInt8) : Gd (rC l).2 := by
  unfold rC
  split
  · split
    · exact .inl rfl
    · exact .inr rfl
  · exact .inr rfl
theorem rS_gd {s : RS} (h : Gd s) : Gd (rS s).2 := by
  unfold rS
  split
  · split
    · exact .inl rfl
    · exact .inr rfl
  · exact rU_gd h
theorem rpl_gd : ∀ (m : Nat) (s : RS) (acc : List UInt8), Gd s → Gd (rpl m s acc).2.2
  | 0, s, acc, h => h
  | m + 1, s, acc, h => by
    rw [rpl_succ]
    split
    · exact rS_gd h
    · split
      · exact rS_gd h
      · exact rpl_gd m _ _ (rS_gd h)
theorem readP_gd (l : List UInt8) : Gd (readP l).2.2 := rpl_gd _ _ _ (rC_gd l)
theorem fl_ok {s : RS} (h : Gd s) (hf : fl s = 0) : s.2 = 0 := by
  rcases h with h | h
  · exact h
  · unfold fl at hf; rw [if_pos h] at hf; exact hf
theorem rpl_ok : ∀ (m : Nat) (s : RS) (acc : List UInt8), (rpl m s acc).1 = 0 → fl (rpl m s acc).2.2 = 0
  | 0, s, acc, h => h
  | m + 1, s, acc, h => by
    rw [rpl_succ] at h ⊢
    split at h
    · rename_i h1; exact absurd h h1
    · split at h
      · cases h
      · rename_i h1 h2
        rw [if_neg h1, if_neg h2]
        exact rpl_ok m _ _ h
/-- What the reading of the early payloads gives: the error, the payloads, the reader's state. -/
def wdE (R : Nat) : Nat → Nat → RS → List NB → Int × List NB × RS
  | 0, _, s, es => (fl s, es, s)
  | m + 1, last, s, es =>
    if fl (rU s).2 ≠ 0 then (fl (rU s).2, [], (rU s).2) else if (rU s).1 ≤ last ∨ R + 1024 < (rU s).1 then (11, [], (rU s).2) else
    if (readP (rU s).2.1).1 ≠ 0 then ((readP (rU s).2.1).1, [], (readP (rU s).2.1).2.2) else wdE R m (rU s).1 (readP (rU s).2.1).2.2 (es ++ [(((rU s).1 : Int), (readP (rU s).2.1).2.1)])
theorem wdE_succ (R m last : Nat) (s : RS) (es : List NB) : wdE R (m + 1) last s es = if fl (rU s).2 ≠ 0 then (fl (rU s).2, [], (rU s).2) else if (rU s).1 ≤ last ∨ R + 1024 < (rU s).1 then (11, [], (rU s).2) else
    if (readP (rU s).2.1).1 ≠ 0 then ((readP (rU s).2.1).1, [], (readP (rU s).2.1).2.2) else wdE R m (rU s).1 (readP (rU s).2.1).2.2 (es ++ [(((rU s).1 : Int), (readP (rU s).2.1).2.1)]) := rfl
theorem rC_ok (l : List UInt8) : 0 < (rC l).1 → (rC l).2.2 = 0 := by
  unfold rC
  split
  · split
    · intro _; rfl
    · intro h; simp at h
  · intro h; simp at h
theorem wdE_gd (R : Nat) : ∀ (m last : Nat) (s : RS) (es : List NB), Gd s → (0 < m → s.2 = 0) → Gd (wdE R m last s es).2.2 ∧ ((wdE R m last s es).1 = 0 → fl (wdE R m last s es).2.2 = 0)
  | 0, last, s, es, h, _ => ⟨h, fun h => h⟩
  | m + 1, last, s, es, h, h0 => by
    rw [wdE_succ]
    have hu := rU_gd h
    split
    · rename_i h1; exact ⟨hu, fun e => absurd e h1⟩
    · split
      · exact ⟨hu, fun e => by cases e⟩
      · split
        · rename_i h3; exact ⟨readP_gd _, fun e => absurd e h3⟩
        · rename_i h3
          have h4 : fl (readP (rU s).2.1).2.2 = 0 := rpl_ok _ _ _ (Decidable.not_not.1 h3)
          exact wdE_gd R m _ _ _ (readP_gd _) (fun _ => fl_ok (readP_gd _) h4)
/-- What lies in a map of such entries. -/
def eF : List NB → Int → Option Bytes
  | [], _ => none
  | (s, l) :: r, k => if k = s then some l else eF r k
theorem eF_none : ∀ (es : List NB) (k : Int), (∀ p ∈ es, p.1 < k) → eF es k = none
  | [], _, _ => rfl
  | (s, l) :: r, k, h => by
    have h1 := h (s, l) (by simp)
    unfold eF
    rw [if_neg (by simp only at h1; omega)]
    exact eF_none r k (fun p hp => h p (by simp [hp]))
theorem eF_app : ∀ (es : List NB) (s : Int) (l : Bytes), (∀ p ∈ es, p.1 < s) → eF (es ++ [(s, l)]) = fun k => if k = s then some l else eF es k
  | [], s, l, _ => by funext k; rfl
  | (t, m) :: r, s, l, h => by
    have h1 : t < s := h (t, m) (by simp)
    have ih := eF_app r s l (fun p hp => h p (by simp [hp]))
    funext k
    have e := congrFun ih k
    show (if k = t then some m else eF (r ++ [(s, l)]) k) = _
    rw [e]
    show _ = if k = s then some l else (if k = t then some m else eF r k)
    split
    · rename_i hk; rw [if_neg (by omega)]
    · rfl
structure EarI (w wr : World) (B br D bc bm : Nat) (vk : Value) (C : Chan) (X : Int × List NB × RS) (N k last : Nat) (s : RS) (es : List NB) : Prop where
  ch : Ch wr B bc bm k vk { C with early := eF es }
  rd : RdS wr br D s
  eq : X = wdE C.received (N - k) last s es
  keeps : Keeps [br, bm] w wr
  kb : KB w wr
  gd : Gd s
  ok : k < N → s.2 = 0
  asc : ∀ p ∈ es, p.1 ≤ (last : Int)
  last : last ≤ C.received + 1024
/-- What the call leaves. -/
def EarPost (w : World) (B br D bc bm : Nat) (vk : Value) (C : Chan) (X : Int × List NB × RS) (e : Ending) (w' : World) : Prop :=
  e = .returned (.int .i64 X.1) ∧ RdS w' br D X.2.2 ∧ Keeps [br, bm] w w' ∧ KB w w' ∧ (X.1 = 0 → ∃ n, n ≤ 1024 ∧ Ch w' B bc bm n vk { C with early := eF X.2.1 })
theorem RdS.nobyte {w : World} {br : Nat} {s : RS} (h : RdS w br D s) : ∀ o x, w.cell? ⟨br, o, none⟩ ≠ some (.int .u8 x) := by
  obtain ⟨v, h, _⟩ := h
  exact rd_nobyte h
theorem RdS.kbk {w w' : World} {br : Nat} {s : RS} (h : RdS w br D s) (hk : Keeps [br] w w') : KB w w' := hk.kb (by intro b hb; simp at hb; subst hb; exact h.nobyte)
set_option maxRecDepth 100000 in
set_option maxHeartbeats 4000000 in
theorem readEarly_c (w : World) (B br bc bm : Nat) (vk : Value) (C : Chan) (l : List UInt8) (h : Ch w B bc bm 0 vk C) (hC : C.early = fun _ => none) (hR : RdS w br D (l, 0)) (hr : C.received ≤ 1099511627776) (hB : B ≤ w.heap.size)
    (hne : br ≠ bc ∧ br ≠ bm ∧ vk.ownBlock ≠ some br ∧ vk.ownBlock ≠ some bm ∧ D ≠ bm ∧ D < w.heap.size) :
    Calls Try.prog 58 #[.pointer (some ⟨bc, 0, none⟩), .pointer (some ⟨br, 0, none⟩)] w (EarPost w B br D bc bm vk C (wdE C.received (rC l).1 (C.received + 1) (rC l).2 [])) := by
  obtain ⟨n1, n2, n3, n4, n5, n7⟩ := hne
  obtain ⟨c0, c1, c2, c3, c4, cf, hbl⟩ := h.cells
  have hbr := hR.lt
  have hN := rC_le l
  have hne2 := h.ne
  have hw1 : IntKind.u64.wrap ((C.received : Int) + 1) = (C.received : Int) + 1 := by rw [IntKind.wrap_u64]; omega
  have hw0 : IntKind.u64.wrap (C.received : Int) = (C.received : Int) := by rw [IntKind.wrap_u64]; omega
  have hw2 : IntKind.u64.wrap ((C.received : Int) + 1024) = (C.received : Int) + 1024 := by rw [IntKind.wrap_u64]; omega
  replace h := Lib.hid h
  replace hR := Lib.hid hR
  clear c0 c1 c3 c4 cf
  go_enter Try.func58, Try.ntmps58
  go_wp2_with fail
  refine (countS_c w br l hR.out).mono ?_
  rintro e w1 ⟨rfl, hR1, hk1⟩
  have hkb1 := hR.out.kbk hk1
  have hC1 := h.out.keepS hk1 (by simpa using fun e : bc = br => n1 e.symm) (by simpa using fun e : bm = br => n2 e.symm) (by simpa using n3) hkb1
  have hgd := rC_gd l
  have hok : 0 < (rC l).1 → (rC l).2.2 = 0 := by
    unfold rC
    split
    · split
      · intro _; rfl
      · intro h; simp at h
    · intro h; simp at h
  obtain ⟨N, hNe⟩ : ∃ N, (rC l).1 = N := ⟨_, rfl⟩
  obtain ⟨s0, hs0⟩ : ∃ s, (rC l).2 = s := ⟨_, rfl⟩
  rw [hNe] at hN hok ⊢
  rw [hs0] at hR1 hgd hok
  obtain ⟨X, hX⟩ : ∃ X, wdE C.received (rC l).1 (C.received + 1) (rC l).2 [] = X := ⟨_, rfl⟩
  have hX2 : X = wdE C.received N (C.received + 1) s0 [] := by rw [← hX, hNe, hs0]
  have hI : EarI w w1 B br D bc bm vk C X N 0 (C.received + 1) s0 [] := ⟨by
    have e : ({ C with early := eF [] } : Chan) = C := by
      cases C; simp only [Chan.mk.injEq, true_and]
      simp only at hC
      rw [hC]; rfl
    rw [e]; exact hC1, hR1, hX2, hk1.mono (by simp), hkb1, hgd, hok, by simp, by omega⟩
  have hlw : ((C.received + 1 : Nat) : Int) = (C.received : Int) + 1 := by omega
  replace hX := Lib.hid hX
  replace hI := Lib.hid hI
  clear hX2 hR1 hk1 hkb1 hC1 hgd hok hNe hs0
  go_wp2
  go_loopw [5, 18] (fun lv iv wr => ∃ (k last : Nat) (s : RS) (es : List NB), iv = .int .i64 k ∧ lv = .int .u64 last ∧ k ≤ N ∧ EarI w wr B br D bc bm vk C X N k last s es) (fun _ iv _ => N - (intOf iv).toNat)
  case atStart => exact ⟨0, C.received + 1, s0, [], rfl, by rw [hlw], by omega, hI.out⟩
  case round =>
    obtain ⟨k, last, s, es, rfl, rfl, hk, hI2⟩ := hrel
    clear hI
    by_cases hlt : k < N
    · have hs0 := hI2.ok hlt
      obtain ⟨ls, es0⟩ := s
      simp only at hs0
      subst hs0
      have hcell := hI2.ch.cells.2.2.1
      have hsucc : N - k = (N - (k + 1)) + 1 := by omega
      have heq := hI2.eq
      rw [hsucc, wdE_succ] at heq
      have hll := hI2.last
      have hsz := hI2.keeps.size
      simp only at hcell
      have hI3 := Lib.hid hI2
      clear hI2
      go_wp2_with fail
      refine (uintS_c wr br _ hI3.out.rd).mono ?_
      rintro e wa ⟨rfl, hRa, hka⟩
      have hkba := hI3.out.rd.kbk hka
      have hCa := hI3.out.ch.keepS hka (by simpa using fun e : bc = br => n1 e.symm) (by simpa using fun e : bm = br => n2 e.symm) (by simpa using n3) hkba
      replace hRa := Lib.hid hRa
      replace hka := Lib.hid hka
      replace hkba := Lib.hid hkba
      replace hCa := Lib.hid hCa
      go_wp2_with fail
      refine (failed_c wa br _ hRa.out).mono ?_
      rintro e _ ⟨rfl, rfl⟩
      have hgd1 := rU_gd (s := (ls, 0)) (.inl rfl)
      have hxlt : (rU (ls, 0)).1 < 18446744073709551616 := by
        unfold rU
        split
        · split
          · rename_i h; exact readU_lt h
          · simp
        · simp
      obtain ⟨x, hx⟩ : ∃ x, (rU (ls, 0)).1 = x := ⟨_, rfl⟩
      obtain ⟨s1, hs1⟩ : ∃ x, (rU (ls, 0)).2 = x := ⟨_, rfl⟩
      obtain ⟨E, hE⟩ : ∃ x, fl s1 = x := ⟨_, rfl⟩
      rw [hx, hs1, hE] at heq
      rw [hx] at hxlt
      rw [hs1] at hRa hgd1
      rw [hx, hs1, hE]
      have hka2 := Lib.hid (hI3.out.keeps.trans (hka.out.mono (by simp)))
      have hkb2 := Lib.hid (hI3.out.kb.trans hkba.out)
      by_cases hE0 : E = 0
      · obtain ⟨l1, e1⟩ := s1
        have he1 := fl_ok hgd1 (hE.trans hE0)
        simp only at he1
        subst he1
        rw [if_neg (by simp [hE0])] at heq
        simp only at heq
        subst hE0
        have ca2 := hCa.out.cells.2.2.1
        simp only at ca2
        clear hx hs1 hE hgd1 hcell
        by_cases hbad : x ≤ last ∨ C.received + 1024 < x
        · rw [if_pos hbad] at heq
          have hg : (∃ _ : (x : Int) ≤ (last : Int), True) ∨ ∃ _ : ¬ (x : Int) ≤ (last : Int), (C.received : Int) + 1024 < (x : Int) := by
            by_cases hc : (x : Int) ≤ (last : Int)
            · exact .inl ⟨hc, trivial⟩
            · exact .inr ⟨hc, by omega⟩
          replace heq := Lib.hid heq
          replace hbad := Lib.hid hbad
          rcases hg with ⟨hg1, _⟩ | ⟨hg1, hg2⟩
          all_goals
            go_wp2
            go_ret
            rw [hX.out, heq.out]
            exact ⟨rfl, hRa.out, hka2.out, hkb2.out, fun h => by cases h⟩
        · rw [if_neg hbad] at heq
          have hg1 : ¬ (x : Int) ≤ (last : Int) := by omega
          have hg2 : ¬ (C.received : Int) + 1024 < (x : Int) := by omega
          have hDw : D < wa.heap.size := by have := hka2.out.size; omega
          replace hbad := Lib.hid hbad
          go_wp2_with fail
          refine (readPayload_c wa br l1 hRa.out hDw).mono ?_
          rintro e wb ⟨v, rfl, hBv, hRb, hkb⟩
          have hgdb := readP_gd l1
          have hokb : (readP l1).1 = 0 → fl (readP l1).2.2 = 0 := rpl_ok _ _ _
          obtain ⟨F, hF⟩ : ∃ F, (readP l1).1 = F := ⟨_, rfl⟩
          obtain ⟨m, hm⟩ : ∃ F, (readP l1).2.1 = F := ⟨_, rfl⟩
          obtain ⟨s2, hs2⟩ : ∃ F, (readP l1).2.2 = F := ⟨_, rfl⟩
          rw [hF, hm, hs2] at heq
          rw [hm] at hBv
          rw [hs2] at hRb hgdb
          rw [hF, hs2] at hokb
          rw [hF]
          have hkbb := hRa.out.kbk hkb
          have hCb := hCa.out.keepS hkb (by simpa using fun e : bc = br => n1 e.symm) (by simpa using fun e : bm = br => n2 e.symm) (by simpa using n3) hkbb
          have hka3 := Lib.hid (hka2.out.trans (hkb.mono (by simp)))
          have hkb3 := Lib.hid (hkb2.out.trans hkbb)
          obtain ⟨av, cv, rfl⟩ := hBv.form
          obtain ⟨ML, hML⟩ : ∃ n, m.length = n := ⟨_, rfl⟩
          rw [hML] at hBv ⊢
          have hszb := hkb.size
          replace hML := Lib.hid hML
          clear hF hm hs2 hkb hkbb
          by_cases hF0 : F = 0
          · subst hF0
            rw [if_neg (by simp)] at heq
            have hs20 := fl_ok hgdb (hokb rfl)
            have hwx : IntKind.i64.wrap (x : Int) = (x : Int) := IntWalk.i64_in _ (by omega)
            have c4b := hCb.cells.2.2.2.2.1
            obtain ⟨wc, hput, hMc, hkc, hkbc⟩ := hCb.early.put (x : Int) (WalkArith.wf_i64 (by omega)) (by unfold maxLen; omega) (.slice av ML cv) m (by have := hBv.slB; exact this)
            have hasc := hI3.out.asc
            have hef : (fun j => if j = (x : Int) then some m else eF es j) = eF (es ++ [((x : Int), m)]) := (eF_app es x m (fun p hp => by have := hasc p hp; omega)).symm
            have hI9 : EarI w wc B br D bc bm vk C X N (k + 1) x s2 (es ++ [((x : Int), m)]) := by
              refine ⟨⟨(hkc.block bc hCb.cells.2.2.2.2.2.2 (by simpa using fun e : bc = bm => hne2 e.symm)).trans hCb.blk, hCb.kept.keep hkc (by simpa using n4) hkbc, ?_⟩, hRb.keepS hkc (by simpa using n2) (by simpa using n5), heq, hka3.out.trans (hkc.mono (by simp)), hkb3.out.trans hkbc, hgdb, fun _ => hs20, fun p hp => ?_, by omega⟩
              · simp only at hMc
                rw [hef] at hMc
                exact hMc
              · rcases List.mem_append.1 hp with hp | hp
                · have := hasc p hp; omega
                · simp at hp; subst hp; exact Int.le_refl _
            have hm0 := hCb.cells
            replace hI9 := Lib.hid hI9
            replace hCb := Lib.hid hCb
            clear hMc hkc hkbc heq hka3 hkb3 hgdb hokb hRb hBv hI3 hm0 hef hasc hs20 ca2 hCa hka2 hkb2
            go_wp2
            go_roundw
            case rel => exact ⟨k + 1, x, s2, _, rfl, rfl, by omega, hI9.out⟩
            case measure => simp [intOf]; omega
          · rw [if_pos hF0] at heq
            have hFb : (F == 0) = false := by simp [hF0]
            replace heq := Lib.hid heq
            replace hF0 := Lib.hid hF0
            replace hRb := Lib.hid hRb
            replace hCb := Lib.hid hCb
            replace hokb := Lib.hid hokb
            replace hBv := Lib.hid hBv
            go_wp2
            go_ret
            rw [hX.out, heq.out]
            exact ⟨rfl, hRb.out, hka3.out, hkb3.out, fun h => absurd h hF0.out⟩
      · rw [if_pos hE0] at heq
        have hEb : (E == 0) = false := by simp [hE0]
        replace heq := Lib.hid heq
        replace hE0 := Lib.hid hE0
        replace hgd1 := Lib.hid hgd1
        clear hx hs1 hE
        go_wp2
        go_ret
        rw [hX.out, heq.out]
        exact ⟨rfl, hRa.out, hka2.out, hkb2.out, fun h => absurd h hE0.out⟩
    · have hkN : k = N := by omega
      subst hkN
      have heq := hI2.eq
      rw [Nat.sub_self] at heq
      replace heq : X = (fl s, es, s) := heq
      have hI3 := Lib.hid hI2
      clear hI2
      replace heq := Lib.hid heq
      go_wp2_with fail
      refine (failed_c wr br _ hI3.out.rd).mono ?_
      rintro e _ ⟨rfl, rfl⟩
      go_wp2
      go_ret
      rw [hX.out, heq.out]
      exact ⟨rfl, hI3.out.rd, hI3.out.keeps, hI3.out.kb, fun _ => ⟨k, hN, hI3.out.ch⟩⟩
end Go.Proofs.Ytilmcdieihmiaaa

namespace Go.Proofs.Ytilmcdieihmiaaa
open Go.RowKit

variable {D : Nat}
set_option maxRecDepth 100000 in
set_option maxHeartbeats 1000000 in
theorem newReader_o (w : World) (v0 : Value) (l : List UInt8) (h : SlB w v0 l) (hl : l.length ≤ 140737488355328) :
    Calls Try.prog 39 #[v0] w fun e w' => ∃ br D, e = .returned (.pointer (some ⟨br, 0, none⟩)) ∧ w.heap.size ≤ br ∧ RdS w' br D (l, 0) ∧ D < w'.heap.size ∧ Keeps [] w w' := by
  obtain ⟨a0, c0, rfl⟩ := h.form
  replace h := Lib.hid h
  go_enter Try.func39, Try.ntmps39
  go_wp2_with fail
  refine (clone_c _ (.inr rfl) _ _ l h.out hl).mono ?_
  rintro e w1 ⟨v1, rfl, hB1, hk1⟩
  obtain ⟨a1, c1, rfl⟩ := hB1.form
  have hsz := hk1.size
  replace hB1 := Lib.hid hB1
  replace hk1 := Lib.hid hk1
  go_wp2
  go_ret
  refine ⟨w1.heap.size, (Value.slice a1 l.length c1).ownBlock.getD w1.heap.size, rfl, hsz, ⟨.slice a1 l.length c1, ⟨heap_alloc_new _ _, (hB1.out.keep ((Keeps.refl [] w1).alloc _)).slB⟩, fun b hb => by rw [hb]; rfl⟩, ?_, hk1.out.alloc _⟩
  cases ho : (Value.slice a1 l.length c1).ownBlock with
  | none => simp
  | some b => have := (World.ownsRow.lt hB1.out b ho).2; simp; omega
theorem rU_lt (s : RS) : (rU s).1 < 18446744073709551616 := by
  unfold rU
  split
  · split
    · rename_i x r h; exact readU_lt h
    · show (0 : Nat) < _; decide
  · show (0 : Nat) < _; decide
def wdK : Nat → RS → List Bytes → Int × List Bytes × RS
  | 0, s, ks => (doneE s.1 s.2, ks, s)
  | m + 1, s, ks => if (readP s.1).1 ≠ 0 then ((readP s.1).1, [], (readP s.1).2.2) else wdK m (readP s.1).2.2 (ks ++ [(readP s.1).2.1])
theorem wdK_succ (m : Nat) (s : RS) (ks : List Bytes) : wdK (m + 1) s ks = if (readP s.1).1 ≠ 0 then ((readP s.1).1, [], (readP s.1).2.2) else wdK m (readP s.1).2.2 (ks ++ [(readP s.1).2.1]) := rfl
/-- What Decode gives: the error, the three numbers, the early payloads, the kept ones. -/
structure Dd where
  err : Int
  a : Nat
  b : Nat
  c : Nat
  es : List NB
  ks : List Bytes
def Dd.bad (e : Int) : Dd := ⟨e, 0, 0, 0, [], []⟩
def decK (a b c : Nat) (e : Int × List NB × RS) : Dd := if e.1 ≠ 0 then .bad e.1 else if (wdK (a - b) e.2.2 []).1 ≠ 0 then .bad (wdK (a - b) e.2.2 []).1 else ⟨0, a, b, c, e.2.1, (wdK (a - b) e.2.2 []).2.1⟩
def decE (a b c : Nat) (s : RS) : Dd :=
  if fl s ≠ 0 then .bad (fl s) else if 1099511627776 < a ∨ a < b ∨ 1024 < a - b ∨ 1099511627776 < c then .bad 11 else decK a b c (wdE c (rC s.1).1 (c + 1) (rC s.1).2 [])
def decP (l : List UInt8) : Dd := decE (rU (l, 0)).1 (rU (rU (l, 0)).2).1 (rU (rU (rU (l, 0)).2).2).1 (rU (rU (rU (l, 0)).2).2).2
/-- What the call leaves. -/
def DecPost (w : World) (d : Dd) (e : Ending) (w' : World) : Prop :=
  (d.err = 0 ∧ ∃ bc bm n vk, e = .returned (.tuple #[.pointer (some ⟨bc, 0, none⟩), .int .i64 0]) ∧ Ch w' w.heap.size bc bm n vk ⟨d.a, d.b, d.c, d.ks, eF d.es⟩ ∧ n ≤ 1024 ∧ w.heap.size ≤ bc ∧ w.heap.size ≤ bm ∧ bc ≠ bm ∧ vk.ownBlock ≠ some bc ∧ Keeps [] w w') ∨
  (d.err ≠ 0 ∧ e = .returned (.tuple #[.pointer none, .int .i64 d.err]) ∧ Keeps [] w w')
theorem Ch.pushKept {w w2 : World} {B bc bm n : Nat} {vk v2 : Value} {C : Chan} {m : Bytes} (h : Ch w B bc bm n vk C) (hcb : vk.ownBlock ≠ some bc) (hG : Grw w w2 vk v2) (hkb : KB w w2) (hL : KL w2 B v2 (C.kept ++ [m])) (hB : B ≤ w.heap.size) :
    Ch (w2.setCell ⟨bc, 3, none⟩ v2) B bc bm n v2 { C with kept := C.kept ++ [m] } ∧ v2.ownBlock ≠ some bc ∧ KB w2 (w2.setCell ⟨bc, 3, none⟩ v2) := by
  have hlt := h.cells.2.2.2.2.2.2
  have hb2 : w2.heap[bc]? = some (.cells #[.int .i64 C.sent, .int .i64 C.acked, .int .i64 C.received, vk, .map (some bm)] 79 (0, 0)) := (hG.grown.block bc hlt (fun e => hcb e.symm)).trans h.blk
  have c3 : w2.cell? ⟨bc, 3, none⟩ = some vk := by simp [World.cell?, hb2]
  have ho : v2.ownBlock ≠ some bc := fun e => by
    rcases hG.own with e2 | ⟨j, e2, hj⟩
    · exact hcb (e2.symm.trans e)
    · rw [e2] at e; cases e; omega
  have hk2 : Keeps [bc] w2 (w2.setCell ⟨bc, 3, none⟩ v2) := (Keeps.refl _ _).setCell (.inr (by simp)) _
  have hkb2 : KB w2 (w2.setCell ⟨bc, 3, none⟩ v2) := KB.setCell w2 _ c3 (fun x e => by
    obtain ⟨a, c, e2⟩ := h.kept.form
    rw [e2] at e; cases e)
  refine ⟨⟨set5_3 hb2 _, hL.keep hk2 (by simpa using ho) hkb2, (h.early.keep hG.keepsO (fun hm => h.kept.ne_map h.early (by simpa using hm)) hkb).keep hk2 (by simpa using h.ne) hkb2⟩, ho, hkb2⟩
theorem Ch.setNums {w : World} {B bc bm n : Nat} {E : Int → Option Bytes} (h : Ch w B bc bm n (.slice none 0 0) ⟨0, 0, 0, [], E⟩) (a b c : Nat) :
    Ch (((w.setCell ⟨bc, 0, none⟩ (.int .i64 a)).setCell ⟨bc, 1, none⟩ (.int .i64 b)).setCell ⟨bc, 2, none⟩ (.int .i64 c)) B bc bm n (.slice none 0 0) ⟨a, b, c, [], E⟩ ∧
      Keeps [bc] w (((w.setCell ⟨bc, 0, none⟩ (.int .i64 a)).setCell ⟨bc, 1, none⟩ (.int .i64 b)).setCell ⟨bc, 2, none⟩ (.int .i64 c)) ∧ KB w (((w.setCell ⟨bc, 0, none⟩ (.int .i64 a)).setCell ⟨bc, 1, none⟩ (.int .i64 b)).setCell ⟨bc, 2, none⟩ (.int .i64 c)) := by
  have b0 := set5_0 h.blk (.int .i64 a)
  have b1 := set5_1 b0 (.int .i64 b)
  have b2 := set5_2 b1 (.int .i64 c)
  have hk : Keeps [bc] w (((w.setCell ⟨bc, 0, none⟩ (.int .i64 a)).setCell ⟨bc, 1, none⟩ (.int .i64 b)).setCell ⟨bc, 2, none⟩ (.int .i64 c)) := (((Keeps.refl _ w).setCell (.inr (by simp)) _).setCell (.inr (by simp)) _).setCell (.inr (by simp)) _
  have hkb := hk.kb (by intro g hg o x; simp at hg; subst hg; exact h.nobyte o x)
  exact ⟨⟨b2, KL.nil _ _, h.early.keep hk (by simpa using h.ne) hkb⟩, hk, hkb⟩
structure DecI (w wr : World) (br D bc bm n : Nat) (vk : Value) (a b c : Nat) (es : List NB) (X : Int × List Bytes × RS) (M k : Nat) (s : RS) (ks : List Bytes) : Prop where
  ch : Ch wr w.heap.size bc bm n vk ⟨a, b, c, ks, eF es⟩
  cb : vk.ownBlock ≠ some bc
  rd : RdS wr br D s
  eq : X = wdK (M - k) s ks
  keeps : Keeps [] w wr
  ok : s.2 = 0
  len : ks.length = k
  ge : ∀ g, vk.ownBlock = some g → g ≠ br ∧ g ≠ D ∧ g ≠ bm
  base : w.heap.size ≤ wr.heap.size
set_option maxRecDepth 100000 in
set_option maxHeartbeats 4000000 in
theorem decode_c (w : World) (v0 : Value) (l : List UInt8) (h : SlB w v0 l) (hl : l.length ≤ 140737488355328) :
    Calls Try.prog 33 #[v0] w (DecPost w (decP l)) := by
  obtain ⟨a0, c0, rfl⟩ := h.form
  replace h := Lib.hid h
  go_enter Try.func33, Try.ntmps33
  go_wp2_with fail
  refine (newReader_o w _ l h.out hl).mono ?_
  rintro e w1 ⟨br, D, rfl, hbr, hR1, hD1, hk1⟩
  replace hR1 := Lib.hid hR1
  go_wp2_with fail
  refine (uintS_c w1 br _ hR1.out).mono ?_
  rintro e w2 ⟨rfl, hR2, hk2⟩
  have hs12 := hk2.size
  replace hk2 := hk1.fresh hk2 (fun b hb => .inr (by simp at hb; omega))
  replace hR2 := Lib.hid hR2
  go_wp2_with fail
  refine (uintS_c w2 br _ hR2.out).mono ?_
  rintro e w3 ⟨rfl, hR3, hk3⟩
  have hs23 := hk3.size
  replace hk3 := hk2.fresh hk3 (fun b hb => .inr (by simp at hb; omega))
  replace hR3 := Lib.hid hR3
  go_wp2_with fail
  refine (uintS_c w3 br _ hR3.out).mono ?_
  rintro e w4 ⟨rfl, hR4, hk4⟩
  have hs34 := hk4.size
  replace hk4 := hk3.fresh hk4 (fun b hb => .inr (by simp at hb; omega))
  replace hR4 := Lib.hid hR4
  go_wp2_with fail
  refine (failed_c w4 br _ hR4.out).mono ?_
  rintro e _ ⟨rfl, rfl⟩
  have hgd := rU_gd (rU_gd (rU_gd (s := (l, 0)) (.inl rfl)))
  have hA64 := rU_lt (l, 0)
  have hB64 := rU_lt (rU (l, 0)).2
  have hC64 := rU_lt (rU (rU (l, 0)).2).2
  have hdP : decP l = decE (rU (l, 0)).1 (rU (rU (l, 0)).2).1 (rU (rU (rU (l, 0)).2).2).1 (rU (rU (rU (l, 0)).2).2).2 := rfl
  obtain ⟨A, hA⟩ : ∃ x, (rU (l, 0)).1 = x := ⟨_, rfl⟩
  obtain ⟨Bn, hBn⟩ : ∃ x, (rU (rU (l, 0)).2).1 = x := ⟨_, rfl⟩
  obtain ⟨Cn, hCn⟩ : ∃ x, (rU (rU (rU (l, 0)).2).2).1 = x := ⟨_, rfl⟩
  obtain ⟨s3, hs3⟩ : ∃ x, (rU (rU (rU (l, 0)).2).2).2 = x := ⟨_, rfl⟩
  obtain ⟨E, hE⟩ : ∃ x, fl s3 = x := ⟨_, rfl⟩
  rw [hA, hBn, hCn, hs3] at hdP
  rw [hA] at hA64
  rw [hBn] at hB64
  rw [hCn] at hC64
  rw [hs3] at hgd hR4
  rw [hA, hBn, hCn, hs3, hE]
  unfold decE at hdP
  rw [hE] at hdP
  have hD4 : D < w4.heap.size := by omega
  have hbr4 : br < w4.heap.size := hR4.out.lt
  replace hk4 := Lib.hid hk4
  clear hR1 hR2 hR3 hk1 hk2 hk3 hA hBn hCn hs3
  by_cases hE0 : E = 0
  · obtain ⟨l3, e3⟩ := s3
    have he3 := fl_ok hgd (hE.trans hE0)
    simp only at he3
    subst he3
    rw [if_neg (by simp [hE0])] at hdP
    subst hE0
    clear hE hgd
    by_cases hbad : 1099511627776 < A ∨ A < Bn ∨ 1024 < A - Bn ∨ 1099511627776 < Cn
    · rw [if_pos hbad] at hdP
      have hg : (∃ _ : (1099511627776 : Int) < A, True) ∨ (∃ _ : ¬ (1099511627776 : Int) < A, ∃ _ : (A : Int) < Bn, True) ∨ (∃ _ : ¬ (1099511627776 : Int) < A, ∃ _ : ¬ (A : Int) < Bn, ∃ _ : IntKind.u64.wrap ((A : Int) - Bn) = ((A - Bn : Nat) : Int), (1024 : Int) < ((A - Bn : Nat) : Int)) ∨
          ∃ _ : ¬ (1099511627776 : Int) < A, ∃ _ : ¬ (A : Int) < Bn, ∃ _ : IntKind.u64.wrap ((A : Int) - Bn) = ((A - Bn : Nat) : Int), ∃ _ : ¬ (1024 : Int) < ((A - Bn : Nat) : Int), (1099511627776 : Int) < Cn := by
        by_cases g1 : (1099511627776 : Int) < A
        · exact .inl ⟨g1, trivial⟩
        · by_cases g2 : (A : Int) < Bn
          · exact .inr (.inl ⟨g1, g2, trivial⟩)
          · have gw : IntKind.u64.wrap ((A : Int) - Bn) = ((A - Bn : Nat) : Int) := by rw [IntKind.wrap_u64]; omega
            by_cases g3 : (1024 : Int) < ((A - Bn : Nat) : Int)
            · exact .inr (.inr (.inl ⟨g1, g2, gw, g3⟩))
            · exact .inr (.inr (.inr ⟨g1, g2, gw, g3, by omega⟩))
      replace hdP := Lib.hid hdP
      replace hbad := Lib.hid hbad
      rcases hg with ⟨g1, _⟩ | ⟨g1, g2, _⟩ | ⟨g1, g2, gw, g3⟩ | ⟨g1, g2, gw, g3, g4⟩
      all_goals
        go_wp2
        go_ret2
        rw [hdP.out]
        exact .inr ⟨by decide, rfl, hk4.out⟩
    · rw [if_neg hbad] at hdP
      have g1 : decide ((1099511627776 : Int) < A) = false := by simp; omega
      have g2 : decide (A < Bn) = false := by simp; omega
      have gw : IntKind.u64.wrap ((A : Int) - Bn) = ((A - Bn : Nat) : Int) := by rw [IntKind.wrap_u64]; omega
      have gs0 : (A : Int) - Bn = ((A - Bn : Nat) : Int) := by omega
      have g3 : decide ((1024 : Int) < ((A - Bn : Nat) : Int)) = false := by simp; omega
      have g4 : decide ((1099511627776 : Int) < Cn) = false := by simp; omega
      have hAle : A ≤ 1099511627776 := by omega
      have hCle : Cn ≤ 1099511627776 := by omega
      have gm : A - Bn ≤ 1024 := by omega
      have gi : IntKind.i64.wrap (A : Int) = A := IntWalk.i64_in _ (by omega)
      have gj : IntKind.i64.wrap (Bn : Int) = Bn := IntWalk.i64_in _ (by omega)
      have gk : IntKind.i64.wrap (Cn : Int) = Cn := IntWalk.i64_in _ (by omega)
      replace hdP := Lib.hid hdP
      replace hbad := Lib.hid hbad
      replace gs0 := Lib.hid gs0
      go_wp2_with fail
      refine (new_c w4).mono ?_
      rintro e w5 ⟨bc, bm, rfl, gb1, gb2, gb3, hC5, hk5⟩
      have hb5 := hC5.base rfl w.heap.size
      obtain ⟨c0', c1', c2', c3', c4', cf', hbl5⟩ := hC5.cells
      have hR5 := hR4.out.keeps hk5
      have hk05 := hk4.out.trans hk5
      have hs04 := hk4.out.size
      have hlm := hC5.early.lt
      have hs5 := hk5.size
      replace hk05 := Lib.hid hk05
      replace hb5 := Lib.hid hb5
      replace hR5 := Lib.hid hR5
      have f0' := cf' 0
      have f1' := cf' 1
      have f2' := cf' 2
      clear hC5 hk5 hk4 hR4 cf'
      go_wp2_with fail
      obtain ⟨hC6, hk6, hkb6⟩ := hb5.out.setNums A Bn Cn
      generalize ((w5.setCell ⟨bc, 0, none⟩ (.int .i64 (A : Int))).setCell ⟨bc, 1, none⟩ (.int .i64 (Bn : Int))).setCell ⟨bc, 2, none⟩ (.int .i64 (Cn : Int)) = w6 at *
      have nb : br ≠ bc := by omega
      have nd : D ≠ bc := by omega
      have nm : br ≠ bm := by omega
      have ndm : D ≠ bm := by omega
      have hR6 := hR5.out.keepS hk6 (by simpa using nb) (by simpa using nd)
      have hk06 := hk05.out.fresh hk6 (fun x hx => .inr (by simp at hx; have := hk05.out.size; omega))
      have hs6 := hk6.size
      have hs06 := hk06.size
      refine (readEarly_c w6 w.heap.size br bc bm (.slice none 0 0) ⟨A, Bn, Cn, [], fun _ => none⟩ l3 hC6 rfl hR6 (by show Cn ≤ 1099511627776; omega) hs06 ⟨nb, nm, by simp [Value.ownBlock], by simp [Value.ownBlock], ndm, by omega⟩).mono ?_
      rintro e w7 ⟨rfl, hR7, hk7, hkb7, hC7⟩
      have hk07 := hk06.fresh hk7 (fun x hx => .inr (by simp at hx; rcases hx with rfl | rfl <;> omega))
      have hs7 := hk7.size
      replace hdP := hdP.out
      simp only at hC7 hR7
      unfold decK at hdP
      have hgdX : Gd (wdE Cn (rC l3).1 (Cn + 1) (rC l3).2 []).2.2 ∧ ((wdE Cn (rC l3).1 (Cn + 1) (rC l3).2 []).1 = 0 → fl (wdE Cn (rC l3).1 (Cn + 1) (rC l3).2 []).2.2 = 0) := wdE_gd _ _ _ _ _ (rC_gd l3) (rC_ok l3)
      obtain ⟨X, hX⟩ : ∃ X, wdE Cn (rC l3).1 (Cn + 1) (rC l3).2 [] = X := ⟨_, rfl⟩
      rw [hX] at hR7 hC7 hdP hgdX ⊢
      obtain ⟨F, es, s7⟩ := X
      simp only at hR7 hC7 hdP hgdX ⊢
      replace hk07 := Lib.hid hk07
      clear hX hC6 hR6 hk06 hk6 hkb6 hb5 hR5 hk05 c0' c1' c2' c3' c4' f0' f1' f2' hk7 hkb7
      by_cases hF0 : F = 0
      · rw [if_neg (by simp [hF0])] at hdP
        obtain ⟨n7, hn7, hC8⟩ := hC7 hF0
        have hs70 := fl_ok hgdX.1 (hgdX.2 hF0)
        subst hF0
        obtain ⟨M, hM⟩ : ∃ M, A - Bn = M := ⟨_, rfl⟩
        obtain ⟨Y, hY⟩ : ∃ Y, wdK (A - Bn) s7 [] = Y := ⟨_, rfl⟩
        rw [hY] at hdP
        rw [hM] at hY gm
        obtain ⟨c0', c1', c2', c3', c4', cf', hbl7⟩ := hC8.cells
        simp only at c0' c1'
        have hI : DecI w w7 br D bc bm n7 (.slice none 0 0) A Bn Cn es Y M 0 s7 [] := ⟨hC8, by simp [Value.ownBlock], hR7, hY.symm, hk07.out, hs70, rfl, fun g hg => by simp [Value.ownBlock] at hg, by omega⟩
        have gs0 := gs0.out
        rw [hM] at gs0
        have gs : IntKind.i64.wrap ((A : Int) - Bn) = (M : Int) := by rw [gs0]; exact IntWalk.i64_in _ (by omega)
        replace hI := Lib.hid hI
        replace hdP := Lib.hid hdP
        replace hM := Lib.hid hM
        replace gs0 := Lib.hid gs0
        clear hC7 hC8 hR7 hgdX hs70 hY c2' c3' c4' cf' gw g3 g4 gi gj gk
        go_wp2
        refine Free.wp_region_chain (fun i => false) (fun i => true) (fun j b => False) (by kernel_rfl) (by kernel_rfl) (by kernel_rfl) ?_
        (repeat (first | (apply Free.cw_pure rfl rfl; (intro w'; go_simp <;> exact rfl); go_frame) | (apply Free.cw_steady rfl rfl rfl; (intro w' hS; have q0 := Free.sx_cell hS c0' (fun _ _ hT => hT); have q1 := Free.sx_cell hS c1' (fun _ _ hT => hT); go_simp <;> exact rfl); go_frame) | (refine Free.cw_skip rfl ?_; go_frame)))
        refine Free.cw_nil ?_
        have hI2 := hI.out
        have hI0 : Hid (DecI w w7.drew br D bc bm n7 (.slice none 0 0) A Bn Cn es Y M 0 s7 []) := ⟨hI2.ch.keeps (Keeps.refl _ _).drew, hI2.cb, hI2.rd.keeps (Keeps.refl _ _).drew, hI2.eq, hI2.keeps.drew, hI2.ok, hI2.len, hI2.ge, hI2.base⟩
        clear hI hI2 c0' c1'
        go_wp2
        go_loopw [75] (fun iv wr => ∃ (k : Nat) (vk : Value) (s : RS) (ks : List Bytes), iv = .int .i64 k ∧ k ≤ M ∧ w7.heap.size ≤ wr.heap.size ∧ DecI w wr br D bc bm n7 vk A Bn Cn es Y M k s ks) (fun iv _ => M - (intOf iv).toNat)
        case atStart => exact ⟨0, _, s7, [], rfl, by omega, by simp, hI0.out⟩
        case round =>
          obtain ⟨k, vk, s, ks, rfl, hk, hb7, hJ⟩ := hrel
          clear hI0
          by_cases hlt : k < M
          · obtain ⟨ls, es0⟩ := s
            have hes0 := hJ.ok
            simp only at hes0
            subst hes0
            have hDr : D < wr.heap.size := by omega
            have hsucc : M - k = (M - (k + 1)) + 1 := by omega
            have heq := hJ.eq
            rw [hsucc, wdK_succ] at heq
            have hbk := hJ.ch.cells.2.2.2.2.2.2
            replace hJ := Lib.hid hJ
            go_wp2_with fail
            refine (readPayload_c wr br ls hJ.out.rd hDr).mono ?_
            rintro e wb ⟨v, rfl, hBv, hRb, hkb⟩
            have hgdb := readP_gd ls
            have hokb : (readP ls).1 = 0 → fl (readP ls).2.2 = 0 := rpl_ok _ _ _
            obtain ⟨F, hF⟩ : ∃ F, (readP ls).1 = F := ⟨_, rfl⟩
            obtain ⟨m, hm⟩ : ∃ F, (readP ls).2.1 = F := ⟨_, rfl⟩
            obtain ⟨s2, hs2⟩ : ∃ F, (readP ls).2.2 = F := ⟨_, rfl⟩
            rw [hF, hm, hs2] at heq
            rw [hm] at hBv
            rw [hs2] at hRb hgdb
            rw [hF, hs2] at hokb
            rw [hF]
            have hkbb := hJ.out.rd.kbk hkb
            have hge := hJ.out.ge
            have hbcm : bc ≠ bm := gb3
            have hCb := hJ.out.ch.keepS hkb (by simpa using fun e : bc = br => nb e.symm) (by simpa using fun e : bm = br => nm e.symm) (fun x hx e => by simp at hx; subst hx; exact (hge x e).1 rfl) hkbb
            have hkb2 := hJ.out.keeps.fresh hkb (fun x hx => .inr (by simp at hx; omega))
            obtain ⟨av, cv, rfl⟩ := hBv.form
            obtain ⟨ML, hML⟩ : ∃ n, m.length = n := ⟨_, rfl⟩
            rw [hML] at hBv ⊢
            have hszb := hkb.size
            have hln := hJ.out.len
            have hcbk := hJ.out.cb
            have hbsw := hJ.out.base
            replace hML := Lib.hid hML
            replace hkb2 := Lib.hid hkb2
            clear hF hm hs2 hkb hkbb
            by_cases hF0 : F = 0
            · subst hF0
              rw [if_neg (by simp)] at heq
              have hs20 := fl_ok hgdb (hokb rfl)
              obtain ⟨_, _, _, c3b, _, cfb, _⟩ := hCb.cells
              have f3b := cfb 3
              obtain ⟨ak, ck, hvk⟩ := hCb.kept.form
              obtain ⟨KN, hKN⟩ : ∃ n, ks.length = n := ⟨_, rfl⟩
              simp only at hvk c3b
              rw [hKN] at hvk
              subst hvk
              replace hge := Lib.hid hge
              replace hcbk := Lib.hid hcbk
              replace hCb := Lib.hid hCb
              replace hRb := Lib.hid hRb
              replace hBv := Lib.hid hBv
              replace heq := Lib.hid heq
              replace hgdb := Lib.hid hgdb
              replace hokb := Lib.hid hokb
              replace hs20 := Lib.hid hs20
              clear hJ cfb
              go_wp2_with (
                at_builtin
                refine wpl_pushL wb w.heap.size (.slice ak KN ck) _ ks m rfl _ _ rfl rfl rfl hCb.out.kept (by have := hBv.out.slB; exact this) (by rw [hKN]; omega) (by omega) ?_
                intro v2 w2 hL2 hG20 hkb20
                have hG2 := hG20.alloc_left
                obtain ⟨hC2, ho2, hkb21⟩ := hCb.out.pushKept hcbk.out hG2 hkb20 hL2 (by omega)
                have c32 : w2.cell? ⟨bc, 3, none⟩ = some (.slice ak KN ck) := ((hG2.keepsO.cell bc 3 hCb.out.cells.2.2.2.2.2.2 (by simpa using hcbk.out))).trans c3b
                have f32 : w2.frozen? ⟨bc, 3, none⟩ = false := (hG2.keepsO.frozen bc 3 hCb.out.cells.2.2.2.2.2.2 (by simpa using hcbk.out)).trans f3b
                have hk2 : Keeps (bc :: (Value.slice ak KN ck).ownBlock.toList) wb (w2.setCell ⟨bc, 3, none⟩ v2) := (hG2.keepsO.mono (fun x hx => List.mem_cons_of_mem _ hx)).setCell (.inr (by simp)) _
                have hown : ∀ g, (Value.slice ak KN ck).ownBlock = some g → w.heap.size ≤ g := fun g hg => (ge_own hCb.out.kept g hg).1
                have hI9 : DecI w (w2.setCell ⟨bc, 3, none⟩ v2) br D bc bm n7 v2 A Bn Cn es Y M (k + 1) s2 (ks ++ [m]) := by
                  refine ⟨hC2, ho2, hRb.out.keepS hk2 ?_ ?_, heq.out, hkb2.out.fresh hk2 (fun x hx => ?_), hs20.out, by simp [hKN]; omega, fun g hg => ?_, by have := hk2.size; omega⟩
                  · simp only [List.mem_cons, not_or, Option.mem_toList]
                    exact ⟨nb, fun e => (hge.out br e).1 rfl⟩
                  · simp only [List.mem_cons, not_or, Option.mem_toList]
                    exact ⟨nd, fun e => (hge.out D e).2.1 rfl⟩
                  · rcases List.mem_cons.1 hx with rfl | hx
                    · exact .inr (by omega)
                    · exact .inr (hown x (by simpa using hx))
                  · rcases hG2.own with e | ⟨j, e, hj⟩
                    · exact hge.out g (e.symm.trans hg)
                    · rw [e] at hg; cases hg
                      exact ⟨by omega, by omega, by omega⟩
                have hb79 : w7.heap.size ≤ (w2.setCell ⟨bc, 3, none⟩ v2).heap.size := by have := hk2.size; omega
                obtain ⟨a2, cp2, rfl⟩ : ∃ a c, v2 = .slice a (KN + 1) c := by
                  have := hL2.form
                  simpa [hKN] using this
                replace hI9 := Lib.hid hI9
                clear hC2 ho2 hkb21 hL2 hG20 hkb20 hG2 hk2 hown)
              go_roundw
              case rel => exact ⟨k + 1, _, s2, ks ++ [m], rfl, by omega, hb79, hI9.out⟩
              case measure => simp [intOf]; omega
            · rw [if_pos hF0] at heq
              have hFb : (F == 0) = false := by simp [hF0]
              have hde : decP l = .bad F := by rw [hdP.out, heq]; simp [hF0]
              replace hde := Lib.hid hde
              replace heq := Lib.hid heq
              replace hF0 := Lib.hid hF0
              replace hRb := Lib.hid hRb
              replace hCb := Lib.hid hCb
              replace hokb := Lib.hid hokb
              replace hBv := Lib.hid hBv
              go_wp2
              go_ret2
              rw [hde.out]
              exact .inr ⟨hF0.out, rfl, hkb2.out⟩
          · have hkM : k = M := by omega
            subst hkM
            have heq := hJ.eq
            rw [Nat.sub_self] at heq
            replace heq : Y = (doneE s.1 s.2, ks, s) := heq
            replace hJ := Lib.hid hJ
            go_wp2_with fail
            refine (doneS_c wr br s hJ.out.rd).mono ?_
            rintro e _ ⟨rfl, rfl⟩
            obtain ⟨G, hG⟩ : ∃ G, doneE s.1 s.2 = G := ⟨_, rfl⟩
            rw [hG] at heq ⊢
            by_cases hG0 : G = 0
            · subst hG0
              have hde : decP l = ⟨0, A, Bn, Cn, es, ks⟩ := by rw [hdP.out, heq]; simp
              replace hde := Lib.hid hde
              replace heq := Lib.hid heq
              go_wp2
              go_ret2
              rw [hde.out]
              exact .inl ⟨rfl, bc, bm, n7, vk, rfl, hJ.out.ch, hn7, by omega, by omega, gb3, hJ.out.cb, hJ.out.keeps⟩
            · have hGb : (G == 0) = false := by simp [hG0]
              have hde : decP l = .bad G := by rw [hdP.out, heq]; simp [hG0]
              replace hde := Lib.hid hde
              replace heq := Lib.hid heq
              replace hG0 := Lib.hid hG0
              go_wp2
              go_ret2
              rw [hde.out]
              exact .inr ⟨hG0.out, rfl, hJ.out.keeps⟩
      · rw [if_pos hF0] at hdP
        have hFb : (F == 0) = false := by simp [hF0]
        replace hdP := Lib.hid hdP
        replace hF0 := Lib.hid hF0
        replace hR7 := Lib.hid hR7
        replace hgdX := Lib.hid hgdX
        replace hC7 := Lib.hid hC7
        go_wp2
        go_ret2
        rw [hdP.out]
        exact .inr ⟨hF0.out, rfl, hk07.out⟩
  · rw [if_pos hE0] at hdP
    have hEb : (E == 0) = false := by simp [hE0]
    replace hdP := Lib.hid hdP
    replace hE0 := Lib.hid hE0
    replace hgd := Lib.hid hgd
    clear hE
    go_wp2
    go_ret2
    rw [hdP.out]
    exact .inr ⟨hE0.out, rfl, hk4.out⟩
end Go.Proofs.Ytilmcdieihmiaaa

namespace Go.Proofs.Ytilmcdieihmiaaa
open Go.RowKit

def rdE (R : Nat) : Nat → Nat → RS → List NB → Option (List NB × RS)
  | 0, _, s, es => some (es, s)
  | m + 1, last, s, es =>
    if s.2 ≠ 0 then some (es, s) else if (rU s).2.2 = 0 ∧ ((rU s).1 ≤ last ∨ R + 1024 < (rU s).1) then none else
    if (readR (rU s).2).2.2.2 = 0 ∧ (readR (rU s).2).1 = false then none else rdE R m (rU s).1 (readR (rU s).2).2.2 (es ++ [(((rU s).1 : Int), (readR (rU s).2).2.1)])
theorem rdE_succ (R m last : Nat) (s : RS) (es : List NB) : rdE R (m + 1) last s es = if s.2 ≠ 0 then some (es, s) else if (rU s).2.2 = 0 ∧ ((rU s).1 ≤ last ∨ R + 1024 < (rU s).1) then none else
    if (readR (rU s).2).2.2.2 = 0 ∧ (readR (rU s).2).1 = false then none else rdE R m (rU s).1 (readR (rU s).2).2.2 (es ++ [(((rU s).1 : Int), (readR (rU s).2).2.1)]) := rfl
def rdK : Nat → RS → List Bytes → Option (List Bytes × RS)
  | 0, s, ks => some (ks, s)
  | m + 1, s, ks => if s.2 ≠ 0 then some (ks, s) else if (readR s).2.2.2 = 0 ∧ (readR s).1 = false then none else rdK m (readR s).2.2 (ks ++ [(readR s).2.1])
theorem rdK_succ (m : Nat) (s : RS) (ks : List Bytes) : rdK (m + 1) s ks = if s.2 ≠ 0 then some (ks, s) else if (readR s).2.2.2 = 0 ∧ (readR s).1 = false then none else rdK m (readR s).2.2 (ks ++ [(readR s).2.1]) := rfl
def refK (a b c : Nat) (e : Option (List NB × RS)) : Dd := match e with
  | none => .bad 11
  | some (es, s) => match rdK (a - b) s [] with
    | none => .bad 11
    | some (ks, s') => if doneE s'.1 s'.2 ≠ 0 then .bad (doneE s'.1 s'.2) else ⟨0, a, b, c, es, ks⟩
def refE (a b c : Nat) (s : RS) : Dd :=
  if s.2 ≠ 0 then .bad s.2 else if 1099511627776 < a ∨ a < b ∨ 1024 < a - b ∨ 1099511627776 < c then .bad 11 else refK a b c (rdE c (rC s.1).1 (c + 1) (rC s.1).2 [])
def refP (l : List UInt8) : Dd := refE (rU (l, 0)).1 (rU (rU (l, 0)).2).1 (rU (rU (rU (l, 0)).2).2).1 (rU (rU (rU (l, 0)).2).2).2
/-- What the call leaves. -/
def RefPost (w : World) (d : Dd) (e : Ending) (w' : World) : Prop :=
  ∃ vk ve, e = .returned (.tuple #[.agg #[.int .i64 d.a, .int .i64 d.b, vk, .int .i64 d.c, ve], .int .i64 d.err]) ∧ SLs w' vk d.ks ∧ SE w' ve d.es ∧ Keeps [] w w'
theorem rU_err {s : RS} (h : s.2 ≠ 0) : rU s = (0, s) := by unfold rU; rw [if_neg h]
theorem ref_full {l : List UInt8} (h : (rU (rU (rU (l, 0)).2).2).2.2 = 0) : l ≠ [] := fun e => by
  subst e
  have e1 : rU (([] : List UInt8), 0) = (0, ([], 11)) := rfl
  rw [e1, rU_err (by decide), rU_err (by decide)] at h
  cases h
/-- The two lists of an end lie in memory of the call's own. -/
structure EndM (w : World) (rx cx D A Bn Cn : Nat) (vk ve : Value) (s : RS) (ks : List Bytes) (es : List NB) : Prop where
  bx : w.heap[rx]? = some zEnd
  cbx : w.heap[cx]? = some (.cells #[.int .i64 A, .int .i64 Bn, vk, .int .i64 Cn, ve] tyEnd (0, 0))
  oe : OE w (rx + 2) tyE ve es
  kl : KL w (rx + 2) vk ks
  ce : ve.ownBlock ≠ some cx
  ck : vk.ownBlock ≠ some cx
  sep : ∀ b, vk.ownBlock = some b → ve.ownBlock ≠ some b
  rd : RrS w (rx + 1) D s
  lt : D < rx ∧ rx + 2 ≤ cx
variable {w wA w2 : World} {rx cx D A Bn Cn : Nat} {vk ve : Value} {s s' : RS} {ks : List Bytes} {es : List NB}
theorem RrS.nobyte {br : Nat} (h : RrS w br D s) : ∀ o x, w.cell? ⟨br, o, none⟩ ≠ some (.int .u8 x) := by
  obtain ⟨v, h, _⟩ := h
  obtain ⟨a, c, rfl⟩ := h.2.form
  exact no_byte h.1 (by simp)
theorem EndM.read (h : EndM w rx cx D A Bn Cn vk ve s ks es) (hk : Keeps [rx + 1] w w2) (hR : RrS w2 (rx + 1) D s') : EndM w2 rx cx D A Bn Cn vk ve s' ks es := by
  have hkb : KB w w2 := hk.kb (by intro b hb; simp at hb; subst hb; exact h.rd.nobyte)
  obtain ⟨l1, l2⟩ := h.lt
  refine ⟨(hk.block rx (Array.getElem?_eq_some_iff.1 h.bx).1 (by simp)).trans h.bx, (hk.block cx (Array.getElem?_eq_some_iff.1 h.cbx).1 (by simp; omega)).trans h.cbx, h.oe.keep hk (fun b hb e => ?_) hkb, h.kl.keep hk (fun b hb e => ?_) hkb, h.ce, h.ck, h.sep, hR, h.lt⟩
  · simp at hb; subst hb; have := (h.oe.ge _ e).1; omega
  · simp at hb; subst hb; have := (ge_own h.kl _ e).1; omega
theorem EndM.keeps (h : EndM w rx cx D A Bn Cn vk ve s ks es) (hk : Keeps [] w w2) : EndM w2 rx cx D A Bn Cn vk ve s ks es := h.read (hk.mono (by simp)) (h.rd.keeps hk)
theorem EndM.pushE (h : EndM w rx cx D A Bn Cn vk ve s ks es) {v2 : Value} {es' : List NB} (hA : Keeps [] w wA) (hG : Grw wA w2 ve v2) (hkb : KB wA w2) (hO : OE w2 (rx + 2) tyE v2 es') :
    EndM (w2.setCell ⟨cx, 4, none⟩ v2) rx cx D A Bn Cn vk v2 s ks es' ∧ Keeps (cx :: ve.ownBlock.toList) w (w2.setCell ⟨cx, 4, none⟩ v2) := by
  have hm := h.keeps hA
  obtain ⟨l1, l2⟩ := h.lt
  have hge : ∀ b, ve.ownBlock = some b → rx + 2 ≤ b := fun b hb => (hm.oe.ge b hb).1
  have hcA := (Array.getElem?_eq_some_iff.1 hm.cbx).1
  have hxA := (Array.getElem?_eq_some_iff.1 hm.bx).1
  have hc2 : w2.heap[cx]? = some (.cells #[.int .i64 A, .int .i64 Bn, vk, .int .i64 Cn, ve] tyEnd (0, 0)) := (hG.grown.block cx hcA (fun e => h.ce e.symm)).trans hm.cbx
  have ho : v2.ownBlock ≠ some cx := fun e => by
    rcases hG.own with e2 | ⟨j, e2, hj⟩
    · exact h.ce (e2.symm.trans e)
    · rw [e2] at e; cases e; omega
  have hkS : Keeps [cx] w2 (w2.setCell ⟨cx, 4, none⟩ v2) := (Keeps.refl _ _).setCell (.inr (by simp)) _
  have hkG : Keeps (cx :: ve.ownBlock.toList) wA (w2.setCell ⟨cx, 4, none⟩ v2) := (hG.keepsO.mono (fun b hb => List.mem_cons_of_mem _ hb)).trans (hkS.mono (by simp))
  have hkbS : KB w2 (w2.setCell ⟨cx, 4, none⟩ v2) := hkS.kb (by
    intro b hb; simp at hb; subst hb
    obtain ⟨a, c, e1⟩ := hm.oe.se.form
    obtain ⟨a', c', e2⟩ := hm.kl.form
    exact no_byte hc2 (by rw [e1, e2]; simp))
  have hkbG := hkb.trans hkbS
  refine ⟨⟨(hkG.block rx hxA ?_).trans hm.bx, ?_, hO.keep hkS (by simpa using ho) hkbS, hm.kl.keep hkG ?_ hkbG, ho, h.ck, fun b hb e => ?_, hm.rd.keepS hkG ?_ ?_, h.lt⟩, hA.of_nil.trans hkG⟩
  · simp only [List.mem_cons, not_or, Option.mem_toList]
    exact ⟨by omega, fun e => by have := hge rx e; omega⟩
  · exact set5_4 hc2 _
  · intro b hb
    rcases List.mem_cons.1 hb with rfl | hb
    · exact h.ck
    · exact fun e => h.sep b e (by simpa using hb)
  · rcases hG.own with e2 | ⟨j, e2, hj⟩
    · exact h.sep b hb (e2.symm.trans e)
    · rw [e2] at e; cases e
      have := (ge_own hm.kl b hb).2; omega
  · simp only [List.mem_cons, not_or, Option.mem_toList]
    exact ⟨by omega, fun e => by have := hge _ e; omega⟩
  · simp only [List.mem_cons, not_or, Option.mem_toList]
    exact ⟨by omega, fun e => by have := hge _ e; omega⟩
theorem EndM.pushK (h : EndM w rx cx D A Bn Cn vk ve s ks es) {v2 : Value} {ks' : List Bytes} (hA : Keeps [] w wA) (hG : Grw wA w2 vk v2) (hkb : KB wA w2) (hO : KL w2 (rx + 2) v2 ks') :
    EndM (w2.setCell ⟨cx, 2, none⟩ v2) rx cx D A Bn Cn v2 ve s ks' es ∧ Keeps (cx :: vk.ownBlock.toList) w (w2.setCell ⟨cx, 2, none⟩ v2) := by
  have hm := h.keeps hA
  obtain ⟨l1, l2⟩ := h.lt
  have hge : ∀ b, vk.ownBlock = some b → rx + 2 ≤ b := fun b hb => (ge_own hm.kl b hb).1
  have hcA := (Array.getElem?_eq_some_iff.1 hm.cbx).1
  have hxA := (Array.getElem?_eq_some_iff.1 hm.bx).1
  have hc2 : w2.heap[cx]? = some (.cells #[.int .i64 A, .int .i64 Bn, vk, .int .i64 Cn, ve] tyEnd (0, 0)) := (hG.grown.block cx hcA (fun e => h.ck e.symm)).trans hm.cbx
  have ho : v2.ownBlock ≠ some cx := fun e => by
    rcases hG.own with e2 | ⟨j, e2, hj⟩
    · exact h.ck (e2.symm.trans e)
    · rw [e2] at e; cases e; omega
  have hkS : Keeps [cx] w2 (w2.setCell ⟨cx, 2, none⟩ v2) := (Keeps.refl _ _).setCell (.inr (by simp)) _
  have hkG : Keeps (cx :: vk.ownBlock.toList) wA (w2.setCell ⟨cx, 2, none⟩ v2) := (hG.keepsO.mono (fun b hb => List.mem_cons_of_mem _ hb)).trans (hkS.mono (by simp))
  have hkbS : KB w2 (w2.setCell ⟨cx, 2, none⟩ v2) := hkS.kb (by
    intro b hb; simp at hb; subst hb
    obtain ⟨a, c, e1⟩ := hm.oe.se.form
    obtain ⟨a', c', e2⟩ := hm.kl.form
    exact no_byte hc2 (by rw [e1, e2]; simp))
  have hkbG := hkb.trans hkbS
  refine ⟨⟨(hkG.block rx hxA ?_).trans hm.bx, ?_, hm.oe.keep hkG ?_ hkbG, hO.keep hkS (by simpa using ho) hkbS, h.ce, ho, fun b hb e => ?_, hm.rd.keepS hkG ?_ ?_, h.lt⟩, hA.of_nil.trans hkG⟩
  · simp only [List.mem_cons, not_or, Option.mem_toList]
    exact ⟨by omega, fun e => by have := hge rx e; omega⟩
  · exact set5_2 hc2 _
  · intro b hb
    rcases List.mem_cons.1 hb with rfl | hb
    · exact h.ce
    · exact h.sep b (by simpa using hb)
  · rcases hG.own with e2 | ⟨j, e2, hj⟩
    · exact h.sep b (e2.symm.trans hb) e
    · rw [e2] at hb; cases hb
      have := (hm.oe.ge b e).2; omega
  · simp only [List.mem_cons, not_or, Option.mem_toList]
    exact ⟨by omega, fun e => by have := hge _ e; omega⟩
  · simp only [List.mem_cons, not_or, Option.mem_toList]
    exact ⟨by omega, fun e => by have := hge _ e; omega⟩
theorem rU_err0 {s : RS} (h : (rU s).2.2 ≠ 0) : (rU s).1 = 0 := by
  unfold rU at h ⊢
  split at h
  · rename_i h1
    rw [if_pos h1]
    split at h
    · exact absurd rfl h
    · rename_i h2; simp only [h2]
  · rename_i h1; rw [if_neg h1]
end Go.Proofs.Ytilmcdieihmiaaa

namespace Go.Proofs.Ytilmcdieihmiaaa
open Go.RowKit

theorem fl_gd {s : RS} (h : Gd s) : fl s = s.2 := by
  unfold fl
  rcases h with h | h
  · split
    · rfl
    · exact h.symm
  · rw [if_pos h]
/-- The two readings of a payload. -/
structure Both2 (p : Int × List UInt8 × RS) (r : Bool × List UInt8 × RS) : Prop where
  st : r.2.2 = p.2.2
  gd : Gd p.2.2
  ok : p.1 = 0 → r.1 = true ∧ r.2.1 = p.2.1 ∧ p.2.2.2 = 0
  bad : p.1 ≠ 0 → (p.2.2.2 ≠ 0 ∧ p.1 = p.2.2.2) ∨ (p.2.2.2 = 0 ∧ p.1 = 11 ∧ r.1 = false)
theorem rpl_both : ∀ (m : Nat) (s : RS) (acc : List UInt8), Gd s → Both2 (rpl m s acc) (rprR m s acc)
  | 0, s, acc, h => ⟨rfl, h, fun e => ⟨rfl, rfl, (fl_gd h).symm.trans e⟩, fun e => .inl ⟨fun h2 => e ((fl_gd h).trans h2), fl_gd h⟩⟩
  | m + 1, s, acc, h => by
    have hg := rS_gd h
    have hl := rS_len s
    rw [rpl_succ, rprR_succ, fl_gd hg]
    by_cases he : (rS s).2.2 = 0
    · rw [if_neg (by simp [he])]
      by_cases hb : (rS s).1 = [] ∨ (0 < m ∧ (rS s).1.length ≠ 4096)
      · rw [if_pos hb, if_pos (.inr (hb.imp id (fun ⟨h1, h2⟩ => ⟨h1, by omega⟩)))]
        exact ⟨rfl, hg, (fun e => by cases e), fun _ => .inr ⟨he, rfl, rfl⟩⟩
      · rw [if_neg hb, if_neg (fun h => h.elim (fun h => h he) (fun h => hb (h.imp id (fun ⟨h1, h2⟩ => ⟨h1, by omega⟩))))]
        exact rpl_both m _ _ hg
    · rw [if_pos he, if_pos (.inl he)]
      exact ⟨rfl, hg, fun e => absurd e he, fun _ => .inl ⟨he, rfl⟩⟩
theorem read_both (l : List UInt8) : Both2 (readP l) (readR (l, 0)) := by
  unfold readP readR
  rw [if_pos rfl]
  exact rpl_both _ _ _ (rC_gd l)
theorem rdE_stop (R : Nat) : ∀ (m last : Nat) (s : RS) (es : List NB), s.2 ≠ 0 → rdE R m last s es = some (es, s)
  | 0, _, _, _, _ => rfl
  | m + 1, last, s, es, h => by rw [rdE_succ, if_pos h]
theorem rdK_stop : ∀ (m : Nat) (s : RS) (ks : List Bytes), s.2 ≠ 0 → rdK m s ks = some (ks, s)
  | 0, _, _, _ => rfl
  | m + 1, s, ks, h => by rw [rdK_succ, if_pos h]
/-- .. of the early payloads. -/
structure BothE (p : Int × List NB × RS) (r : Option (List NB × RS)) : Prop where
  ok : p.1 = 0 → r = some (p.2.1, p.2.2) ∧ p.2.2.2 = 0
  bad : p.1 ≠ 0 → (r = none ∧ p.1 = 11) ∨ ∃ es s, r = some (es, s) ∧ s.2 = p.1
theorem wdE_both (R : Nat) : ∀ (m last : Nat) (s : RS) (es : List NB), Gd s → (0 < m → s.2 = 0) → BothE (wdE R m last s es) (rdE R m last s es)
  | 0, last, s, es, h, _ => ⟨fun e => ⟨rfl, (fl_gd h).symm.trans e⟩, fun e => .inr ⟨es, s, rfl, (fl_gd h).symm⟩⟩
  | m + 1, last, s, es, h, h0 => by
    have hs := h0 (Nat.succ_pos m)
    have hg := rU_gd h
    rw [wdE_succ, rdE_succ, fl_gd hg, if_neg (show ¬ s.2 ≠ 0 from fun x => x hs)]
    obtain ⟨x, hx⟩ : ∃ x, (rU s).1 = x := ⟨_, rfl⟩
    obtain ⟨⟨l1, e1⟩, hs1⟩ : ∃ t, (rU s).2 = t := ⟨_, rfl⟩
    rw [hx, hs1]
    simp only
    by_cases he : e1 = 0
    · subst he
      have hr := read_both l1
      rw [if_neg (show ¬ (0 : Int) ≠ 0 from fun x => x rfl)]
      by_cases hb : x ≤ last ∨ R + 1024 < x
      · rw [if_pos hb, if_pos (show (0 : Int) = 0 ∧ (x ≤ last ∨ R + 1024 < x) from ⟨rfl, hb⟩)]
        exact ⟨(fun e => by cases e), fun _ => .inl ⟨rfl, rfl⟩⟩
      · rw [if_neg hb, if_neg (show ¬ ((0 : Int) = 0 ∧ (x ≤ last ∨ R + 1024 < x)) from fun h => hb h.2)]
        by_cases hp : (readP l1).1 = 0
        · obtain ⟨h1, h2, h3⟩ := hr.ok hp
          rw [if_neg (show ¬ (readP l1).1 ≠ 0 from fun x => x hp), if_neg (show ¬ ((readR (l1, 0)).2.2.2 = 0 ∧ (readR (l1, 0)).1 = false) by rw [h1]; simp), h2, hr.st]
          exact wdE_both R m _ _ _ hr.gd (fun _ => h3)
        · rw [if_pos (show (readP l1).1 ≠ 0 from hp)]
          rcases hr.bad hp with ⟨h1, h2⟩ | ⟨h1, h2, h3⟩
          · rw [if_neg (show ¬ ((readR (l1, 0)).2.2.2 = 0 ∧ (readR (l1, 0)).1 = false) by rw [hr.st]; exact fun h => h1 h.1), rdE_stop R m _ _ _ (by rw [hr.st]; exact h1)]
            exact ⟨fun e => absurd e hp, fun _ => .inr ⟨_, _, rfl, by rw [hr.st]; exact h2.symm⟩⟩
          · rw [if_pos (show (readR (l1, 0)).2.2.2 = 0 ∧ (readR (l1, 0)).1 = false from ⟨by rw [hr.st]; exact h1, h3⟩)]
            exact ⟨fun e => absurd e hp, fun _ => .inl ⟨rfl, h2⟩⟩
    · have hr : readR (l1, e1) = (true, [], (l1, e1)) := by unfold readR; rw [if_neg he]
      rw [if_pos (show e1 ≠ 0 from he), if_neg (show ¬ (e1 = 0 ∧ (x ≤ last ∨ R + 1024 < x)) from fun h => he h.1), hr]
      simp only
      rw [if_neg (show ¬ (e1 = 0 ∧ true = false) from fun h => he h.1), rdE_stop R m _ _ _ he]
      exact ⟨fun e => absurd e he, fun _ => .inr ⟨_, _, rfl, rfl⟩⟩
theorem doneE_err {s : RS} (h : s.2 ≠ 0) : doneE s.1 s.2 = s.2 := by unfold doneE; rw [if_neg (fun e => h e.1)]
theorem wdK_both (a b c : Nat) (es : List NB) : ∀ (m : Nat) (s : RS) (ks : List Bytes), s.2 = 0 →
    (if (wdK m s ks).1 ≠ 0 then Dd.bad (wdK m s ks).1 else ⟨0, a, b, c, es, (wdK m s ks).2.1⟩) =
      (match rdK m s ks with | none => Dd.bad 11 | some (ks', s') => if doneE s'.1 s'.2 ≠ 0 then .bad (doneE s'.1 s'.2) else ⟨0, a, b, c, es, ks'⟩)
  | 0, s, ks, _ => rfl
  | m + 1, (l, e), ks, h => by
    simp only at h
    subst h
    have hr := read_both l
    rw [rdK_succ, if_neg (show ¬ ((l, (0 : Int)) : RS).2 ≠ 0 from fun x => x rfl)]
    by_cases hp : (readP l).1 = 0
    · obtain ⟨h1, h2, h3⟩ := hr.ok hp
      have hw : wdK (m + 1) (l, 0) ks = wdK m (readP l).2.2 (ks ++ [(readP l).2.1]) := by rw [wdK_succ, if_neg (show ¬ (readP l).1 ≠ 0 from fun x => x hp)]
      rw [hw, if_neg (show ¬ ((readR (l, 0)).2.2.2 = 0 ∧ (readR (l, 0)).1 = false) by rw [h1]; simp), h2, hr.st]
      exact wdK_both a b c es m _ _ h3
    · have hw : wdK (m + 1) (l, 0) ks = ((readP l).1, [], (readP l).2.2) := by rw [wdK_succ, if_pos (show (readP l).1 ≠ 0 from hp)]
      rw [hw]
      rcases hr.bad hp with ⟨h1, h2⟩ | ⟨h1, h2, h3⟩
      · rw [if_neg (show ¬ ((readR (l, 0)).2.2.2 = 0 ∧ (readR (l, 0)).1 = false) by rw [hr.st]; exact fun h => h1 h.1), rdK_stop m _ _ (by rw [hr.st]; exact h1), hr.st]
        simp only
        rw [doneE_err h1, if_pos h1, if_pos hp, h2]
      · rw [if_pos (show (readR (l, 0)).2.2.2 = 0 ∧ (readR (l, 0)).1 = false from ⟨by rw [hr.st]; exact h1, h3⟩)]
        simp only
        rw [if_pos hp, h2]
/-- THE LAW: the two agree. -/
theorem dec_ref (l : List UInt8) : decP l = refP l := by
  have hg := rU_gd (rU_gd (rU_gd (s := (l, 0)) (.inl rfl)))
  unfold decP refP decE refE
  rw [fl_gd hg]
  split
  · rfl
  · rename_i he
    split
    · rfl
    · have hb := wdE_both (rU (rU (rU (l, 0)).2).2).1 (rC (rU (rU (rU (l, 0)).2).2).2.1).1 ((rU (rU (rU (l, 0)).2).2).1 + 1) (rC (rU (rU (rU (l, 0)).2).2).2.1).2 [] (rC_gd _) (rC_ok _)
      unfold decK refK
      generalize wdE (rU (rU (rU (l, 0)).2).2).1 (rC (rU (rU (rU (l, 0)).2).2).2.1).1 ((rU (rU (rU (l, 0)).2).2).1 + 1) (rC (rU (rU (rU (l, 0)).2).2).2.1).2 [] = p at *
      generalize rdE (rU (rU (rU (l, 0)).2).2).1 (rC (rU (rU (rU (l, 0)).2).2).2.1).1 ((rU (rU (rU (l, 0)).2).2).1 + 1) (rC (rU (rU (rU (l, 0)).2).2).2.1).2 [] = r at *
      by_cases hp : p.1 = 0
      · obtain ⟨h1, h2⟩ := hb.ok hp
        rw [if_neg (by simp [hp] : ¬ p.1 ≠ 0), h1]
        exact wdK_both _ _ _ _ _ _ _ h2
      · rw [if_pos hp]
        rcases hb.bad hp with ⟨h1, h2⟩ | ⟨es, s, h1, h2⟩
        · rw [h1, h2]
        · rw [h1]
          simp only
          rw [rdK_stop _ s _ (by rw [h2]; exact hp)]
          simp only
          rw [doneE_err (by rw [h2]; exact hp), h2, if_pos hp]
end Go.Proofs.Ytilmcdieihmiaaa
