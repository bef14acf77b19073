/- Texts that the laws lean on, in the order in which they build. The sorted keys of the map by machine: maps.Keys, slices.Sorted. What the walk of certificate.claims leans on. Package certificate: claims. (Printed by mkctk.py.) Comparisons of needs and of claims, in package certificate and in its specification. (Printed by mkcte.py.) -/
import Derived.Test.YtiplgpefapeapaaGreatDoorL5
import Derived.Lib.SlKeysI
set_option linter.unusedVariables false
set_option linter.unusedSimpArgs false
namespace Go.Proofs.YtiplgpefapeapaaGreatDoor
open Go.RowKit Go.Maps Go.Sort Go.Shelf Go.Proofs

abbrev pV (b : Nat) : Value := .pointer (some ⟨b, 0, none⟩)
theorem ktZ_keys {w : World} {b : Nat} {L : List (Int × Nat)} (h : MapS.M ktZ pV w b L) : ∃ D, w.ownsMap Tryz.prog 3 MapS.raw b L.length D ∧ Maps.size D = L.length ∧ (L.map (·.1)).Perm (intKeys D) := by
  obtain ⟨⟨D, h1, h2, h3, h4⟩, hn, ho⟩ := h
  refine ⟨D, h1, h2, CollectedI.perm (left := fun _ => false) ⟨hn, fun x => ?_⟩ h1 (Maps.int_keyed Tryz.underlying3) Tryz.underlying3 (fun _ => rfl)⟩
  constructor
  · intro hx
    obtain ⟨p, hp, rfl⟩ := List.mem_map.1 hx
    have hk : keyOf Tryz.prog 3 (zV p.1) = some (.int .i64 p.1) := Maps.keyOf_int_mk Tryz.underlying3 (ho p hp)
    have := h3.hs ktZ hk
    rw [MapS.get_of_mem hn hp] at this
    exact ⟨this, rfl⟩
  · rintro ⟨hx, _⟩
    obtain ⟨y, hy, hs⟩ := h4 _ hx
    obtain ⟨z, e1, e2, _⟩ := Maps.keyOf_i64 Tryz.underlying3 hy
    have e3 : y = z := by
      have : zV y = encZ z := e1
      simpa [zV, encZ] using this
    simp only [Lit.int.injEq, true_and] at e2
    obtain ⟨u, hu⟩ := Option.isSome_iff_exists.1 hs
    rw [e2, ← e3]
    exact List.mem_map.2 ⟨_, MapS.get_mem hu, rfl⟩
theorem sortsA (m : Nat) : AnyZI.SortsIn Tryz.prog Tryz.sortedA_ren Fence.wide m :=
  ⟨fun blk off cap ss W hH hblk hsz => callsIn_wide.2 (AnyM.slices_Sort_int Tryz.sortA blk off cap ss W hH hblk hsz),
   fun p cap W => callsIn_wide.2 (AnyM.slices_Sort_int_none Tryz.sortA p cap W)⟩
theorem keysC_c (mb : Option Nat) (w : World) : Calls Tryz.prog 59 #[.map mb] w fun e w' => e = .returned (.func (.func 82) #[] #[.pointer (some ⟨w.heap.size, 0, none⟩)]) ∧ w' = w.alloc (.cells #[.map mb] 99) :=
  callsIn_wide.1 (AnyZI.keys_in Tryz.keysA Fence.wide 5 trivial rfl mb w)
theorem sorted_eqZ {ss ks : List Int} (h : ss.Perm ks) (hk : ks.Pairwise (· < ·)) : ss.mergeSort (fun x y => decide (x ≤ y)) = ks := by
  have h1 := mergeSort_of_perm_i h
  have h2 : ks.mergeSort leI = ks := List.mergeSort_of_pairwise (hk.imp (fun h => by simp [leI]; omega))
  exact h1.trans h2
set_option maxRecDepth 100000 in
set_option maxHeartbeats 1000000 in
theorem sortedC_c (w : World) (B bm : Nat) (L : List (Int × Nat)) (h : MapS.M ktZ pV w bm L) (hs : (L.map (·.1)).Pairwise (· < ·)) (hbox : w.cell? ⟨B, 0, none⟩ = some (.map (some bm))) (hB : B < w.heap.size) (hl : L.length ≤ 1000000) :
    Calls Tryz.prog 58 #[.func (.func 82) #[] #[.pointer (some ⟨B, 0, none⟩)]] w fun e w' => ∃ v, e = .returned v ∧ shZ.O w' w.heap.size 3 v (L.map (·.1)) ∧ Keeps [] w w' := by
  obtain ⟨D, hown, hsz, hp⟩ := ktZ_keys h
  have hseq : SeqGives Fence.wide 2 Tryz.prog 82 #[.pointer (some ⟨B, 0, none⟩)] encZ (fun ss => ss.Perm (intKeys D)) (Maps.size D) w :=
    AnyZI.keys_gives (ρ := Tryz.keysA_ren) { Tryz.keysA with } Fence.wide _ trivial rfl (by omega) B bm L.length D _ hB hbox hown
  have cS := AnyZI.sorted_in Tryz.sortedA Fence.wide 5 trivial trivial trivial trivial rfl (by omega) (sortsA _) (enters_of Tryz.func25 (by kernel_rfl) rfl) 82 #[.pointer (some ⟨B, 0, none⟩)] trivial (enters_of Tryz.func82 (by kernel_rfl) rfl) _ _ (by rw [hsz]; unfold maxLen; omega) (by rw [hsz]; omega) _ hseq
  change CallsIn _ _ Tryz.prog 58 _ _ _ at cS
  refine (callsIn_wide.1 cS).mono ?_
  rintro e w' ⟨v, ss, rfl, hS, hrow, _, hb⟩
  have hpp := hS.trans hp.symm
  have hsrt := sorted_eqZ hpp hs
  rw [hsrt, hpp.length_eq] at hrow
  refine ⟨v, rfl, ?_, Keeps.of_below hb⟩
  have e : (L.map (·.1)).map encZ = shZ.cs (L.map (·.1)) := by
    generalize L.map (·.1) = l
    induction l with
    | nil => rfl
    | cons a l ih => rw [List.map_cons, ih]; rfl
  rw [e] at hrow
  exact hrow
end Go.Proofs.YtiplgpefapeapaaGreatDoor

namespace Go.Proofs.YtiplgpefapeapaaGreatDoor
open Go.RowKit

theorem msB_len (L : List Int) (a : Ans) : (msA L a).length ≤ L.length + 1 := by unfold msA; split <;> simp
theorem msG_len : ∀ (Y : List Ans) (L : List Int), (Y.foldl msA L).length ≤ L.length + Y.length
  | [], L => by simp
  | a :: Y, L => by
    have ih := msG_len Y (msA L a)
    have := msB_len L a
    rw [List.foldl_cons, List.length_cons]
    omega
theorem msL_len (Y : List Ans) : (msOf Y).length ≤ Y.length := by have := msG_len Y []; simpa [msOf] using this
theorem map_set_upd (P : List PCl) {n : Nat} (hn : n < P.length) (j : Nat) (L : List T3) : (P.set n (P[n].upd j L)).map PCl.m = P.map PCl.m := by
  refine List.ext_getElem (by simp) (fun i h1 h2 => ?_)
  rw [List.getElem_map, List.getElem_map, List.getElem_set]
  split
  · rename_i e; subst e; exact (CL.upd_m _ _ _).1
  · rfl
theorem basC_small {O : List (Qn × Int)} {Y : List Ans} (hs : SrtA Y) {p : PCl} (hp : p ∈ basC O Y) : p.st.length ≤ Y.length ∧ p.sc = [] ∧ p.ch.length ≤ Y.length := by
  rw [basC_eq hs] at hp
  obtain ⟨m, _, rfl⟩ := List.mem_map.1 hp
  exact ⟨List.length_filterMap_le _ _, rfl, List.length_filterMap_le _ _⟩
theorem BX.app2 {w w' : World} {B : Nat} {bs : List Nat} {P : List PCl} {V : Nat → Nat → SlT} (h : BX w B bs P V) {k j gb : Nat} (hk : k < P.length) (hb : k < bs.length) (hg : bs[k] = gb) (hj : j < 3) {L' : List T3} {v' : SlT} (hG : Grw w w' (slv (V k j)) (slv v')) (hO : shT.O w' B tN (slv v') L') :
    BX (w'.setCell ⟨gb, 2 + j, none⟩ (slv v')) B bs (P.set k (P[k].upd j L')) (updV V k j v') := by
  subst hg
  exact h.app hk hb hj hG hO
/-- The claims while their scions are gathered. -/
structure MidC (P P1 : List PCl) (Y : List Ans) (D : List (Qn × Int)) : Prop where
  len : P.length = P1.length
  at' : ∀ i (h1 : i < P.length) (h2 : i < P1.length), P[i].m = P1[i].m ∧ P[i].ep = P1[i].ep ∧ P[i].st = P1[i].st ∧ P[i].ch = P1[i].ch ∧ P[i].sc = scD Y P1[i].m D
theorem MidC.ms {P P1 : List PCl} {Y : List Ans} {D : List (Qn × Int)} (h : MidC P P1 Y D) : P.map PCl.m = P1.map PCl.m := List.ext_getElem (by simp [h.len]) (fun i h1 h2 => by
  simp only [List.length_map] at h1 h2
  rw [List.getElem_map, List.getElem_map, (h.at' i h1 h2).1])
theorem MidC.step {P P1 : List PCl} {Y : List Ans} {D : List (Qn × Int)} (h : MidC P P1 Y D) {n : Nat} (hn : n < P.length) (p : Qn × Int) (hm : P[n].m = p.1.1) (hnd : (P1.map PCl.m).Nodup) :
    MidC (P.set n (P[n].upd 1 (P[n].at 1 ++ [(p.1.2.1, p.1.2.2, luL Y (p.1.2.1, p.1.1, p.1.2.2))]))) P1 Y (D ++ [p]) := by
  have hl := h.len
  refine ⟨by rw [List.length_set]; exact hl, fun i h1 h2 => ?_⟩
  have hi : i < P.length := by simpa using h1
  obtain ⟨g1, g2, g3, g4, g5⟩ := h.at' i hi h2
  rw [List.getElem_set]
  by_cases e : n = i
  · subst e
    rw [if_pos rfl]
    refine ⟨g1, g2, g3, g4, ?_⟩
    show P[n].sc ++ _ = _
    rw [g5, scD_snoc]
    unfold scE
    rw [if_pos (by rw [← hm, g1]), ← g1, hm]
    rfl
  · rw [if_neg e]
    refine ⟨g1, g2, g3, g4, ?_⟩
    rw [g5, scD_snoc]
    unfold scE
    have hne : ¬ p.1.1 = P1[i].m := fun e2 => e (by
      have e3 : P1[n]'(by omega) = P1[n]'(by omega) := rfl
      have e4 : (P1[n]'(by omega)).m = P1[i].m := by rw [← (h.at' n hn (by omega)).1, hm, e2]
      rcases Nat.lt_trichotomy n i with c | c | c
      · have := List.pairwise_iff_getElem.1 hnd n i (by simp; omega) (by simp; omega) c
        simp only [List.getElem_map] at this
        exact absurd e4 this
      · exact c
      · have := List.pairwise_iff_getElem.1 hnd i n (by simp; omega) (by simp; omega) c
        simp only [List.getElem_map] at this
        exact absurd e4.symm this)
    rw [if_neg hne]
    simp
/-- The claims while their lists are sorted. -/
structure SrtC (P Pm : List PCl) (dn : Nat → Nat → Prop) : Prop where
  len : P.length = Pm.length
  me : ∀ i (h1 : i < P.length) (h2 : i < Pm.length), P[i].m = Pm[i].m ∧ P[i].ep = Pm[i].ep
  ls : ∀ i (h1 : i < P.length) (h2 : i < Pm.length) j, j < 3 → (P[i].at j).Perm (Pm[i].at j)
  srt : ∀ i (h1 : i < P.length) j, j < 3 → dn i j → (P[i].at j).Pairwise (fun x y => ¬ tlt y x)
theorem SrtC.start (P : List PCl) : SrtC P P (fun a _ => a < 0) := ⟨rfl, fun _ _ _ => ⟨rfl, rfl⟩, fun _ _ _ _ _ => List.Perm.refl _, fun _ _ _ _ h => absurd h (by omega)⟩
theorem SrtC.weak {P Pm : List PCl} {d e : Nat → Nat → Prop} (h : SrtC P Pm d) (he : ∀ i j, j < 3 → e i j → d i j) : SrtC P Pm e := ⟨h.len, h.me, h.ls, fun i h1 j hj hd => h.srt i h1 j hj (he i j hj hd)⟩
theorem SrtC.turn {P Pm : List PCl} {i k : Nat} (h : SrtC P Pm (fun a j => a < i ∨ (a = i ∧ j < k))) (hi : i < P.length) (hk : k < 3) {L : List T3} (hp : L.Perm (P[i].at k)) (hs : L.Pairwise (fun x y => ¬ tlt y x)) :
    SrtC (P.set i (P[i].upd k L)) Pm (fun a j => a < i ∨ (a = i ∧ j < k + 1)) := by
  refine ⟨by rw [List.length_set]; exact h.len, fun a h1 h2 => ?_, fun a h1 h2 j hj => ?_, fun a h1 j hj hd => ?_⟩
  · have ha : a < P.length := by simpa using h1
    rw [List.getElem_set]
    split
    · rename_i e; subst e; rw [(CL.upd_m _ _ _).1, (CL.upd_m _ _ _).2]; exact h.me i ha h2
    · exact h.me a ha h2
  · have ha : a < P.length := by simpa using h1
    rw [List.getElem_set]
    split
    · rename_i e; subst e
      rw [CL.at_upd _ _ _ _ hk hj]
      split
      · rename_i e; subst e; exact hp.trans (h.ls i ha h2 j hj)
      · exact h.ls i ha h2 j hj
    · exact h.ls a ha h2 j hj
  · have ha : a < P.length := by simpa using h1
    rw [List.getElem_set]
    split
    · rename_i e; subst e
      rw [CL.at_upd _ _ _ _ hk hj]
      split
      · exact hs
      · rename_i e2
        refine h.srt i ha j hj ?_
        rcases hd with c | ⟨_, c⟩
        · exact .inl c
        · exact .inr ⟨rfl, by omega⟩
    · rename_i e
      refine h.srt a ha j hj ?_
      rcases hd with c | ⟨c, _⟩
      · exact .inl c
      · exact absurd c.symm e
theorem zeroP (w : World) : (zeroValue 100).run Tryz.prog w = .ok (.pointer none) w := by kernel_rfl
/-- What holds while the claims are sorted and gathered. -/
structure L3 (w wl : World) (Z0 Zo Zs bM : Nat) (bs : List Nat) (Q : List PCl) (V : Nat → Nat → SlT) (ov : Value) (rows : List ClV) (ms : List Int) (vS : Value) : Prop where
  bx : BX wl Z0 bs Q V
  out : shC.O wl Zo tC ov rows
  mp : MapS.M ktZ pV wl bM (ms.zip bs)
  srt : shZ.O wl Zs 3 vS ms
  kp : Keeps [] w wl
  zo : Zo ≤ wl.heap.size
namespace L3
variable {w wl wl' : World} {Z0 Zo Zs bM : Nat} {bs : List Nat} {Q : List PCl} {V : Nat → Nat → SlT} {ov ov' : Value} {rows rows' : List ClV} {ms : List Int} {vS : Value}
theorem keeps (h : L3 w wl Z0 Zo Zs bM bs Q V ov rows ms vS) (hk : Keeps [] wl wl') : L3 w wl' Z0 Zo Zs bM bs Q V ov rows ms vS := ⟨h.bx.keeps hk, h.out.keeps hk, h.mp.keeps ktZ hk, h.srt.keeps hk, h.kp.trans hk, Nat.le_trans h.zo hk.size⟩
theorem turn (h : L3 w wl Z0 Zo Zs bM bs Q V ov rows ms vS) (hz : w.heap.size ≤ Z0) (hM : bM < Z0) {k j : Nat} (hk : k < Q.length) (hj : j < 3) {L' : List T3} (hK : Keeps (slv (V k j)).ownBlock.toList wl wl') (hO : shT.O wl' Z0 tN (slv (V k j)) L') : L3 w wl' Z0 Zo Zs bM bs (Q.set k (Q[k].upd j L')) V ov rows ms vS := by
  have ho := h.bx.o k j hk hj
  refine ⟨h.bx.turn hk hj hK hO, h.out.keepS hK (fun b hb e => ?_), h.mp.kept ktZ hK (fun hm => ?_), h.srt.keepS hK (fun b hb e => ?_), h.kp.fresh hK (fun b hb => .inr ?_), Nat.le_trans h.zo hK.size⟩
  · obtain ⟨cs, hc⟩ := ho.tag b (by simpa using hb)
    obtain ⟨cs', hc'⟩ := h.out.tag b e
    exact tag_ne hc hc' (by decide) rfl
  · have := ho.ge bM (by simpa using hm)
    omega
  · obtain ⟨cs, hc⟩ := ho.tag b (by simpa using hb)
    obtain ⟨cs', hc'⟩ := h.srt.tag b e
    exact tag_ne hc hc' (by decide) rfl
  · have := ho.ge b (by simpa using hb)
    omega
theorem app (h : L3 w wl Z0 Zo Zs bM bs Q V ov rows ms vS) (hz : w.heap.size ≤ Zo) (hM : bM < Zo) (hb1 : ∀ k (hk : k < bs.length), bs[k] < Zo) (hb2 : ∀ k j b, k < Q.length → j < 3 → (slv (V k j)).ownBlock = some b → b < Zo)
    (hG : Grw wl wl' ov ov') (hO : shC.O wl' Zo tC ov' rows') : L3 w wl' Z0 Zo Zs bM bs Q V ov' rows' ms vS := by
  have hK := hG.keepsO
  have hge : ∀ b, b ∈ ov.ownBlock.toList → Zo ≤ b := fun b hb => h.out.ge b (by simpa using hb)
  refine ⟨h.bx.keepS hK (fun k hk hm => ?_) (fun k j b h1 h2 h3 hm => ?_), hO, h.mp.kept ktZ hK (fun hm => ?_), h.srt.keepS hK (fun b hb e => ?_), h.kp.fresh hK (fun b hb => .inr ?_), Nat.le_trans h.zo hK.size⟩
  · have := hge _ hm; have := hb1 k hk; omega
  · have := hge _ hm; have := hb2 k j b h1 h2 h3; omega
  · have := hge _ hm; omega
  · obtain ⟨cs, hc⟩ := h.out.tag b (by simpa using hb)
    obtain ⟨cs', hc'⟩ := h.srt.tag b e
    exact tag_ne hc hc' (by decide) rfl
  · have := hge _ hb; omega
end L3
theorem rowsC_take (P : List PCl) (V : Nat → Nat → SlT) (q : Nat) (hq : q < P.length) : (rowsC P V).take (q + 1) = (rowsC P V).take q ++ [⟨P[q].m, P[q].ep, V q 0, V q 1, V q 2⟩] := by
  rw [List.take_succ_eq_append_getElem (by rw [rowsC_len]; exact hq), rowsC_get P V q hq]
/-- The end: the rows are the claims. -/
theorem claims_fin {w : World} {Z0 Zo : Nat} {bs : List Nat} {Y : List Ans} {P1 P Q : List PCl} {V : Nat → Nat → SlT} {ov : Value} {D : List (Qn × Int)} (hs : SrtA Y) (hP1 : P1 = (msOf Y).map (basOf (outsOf Y) Y)) (hmid : MidC P P1 Y D) (hD : D.Perm (outsOf Y)) (hq : SrtC Q P (fun a _ => a < P.length)) (hb : BX w Z0 bs Q V) (ho : shC.O w Zo tC ov (rowsC P V)) : LC w ov (clY Y) := by
  have hQ : Q = clY Y := by
    have l1 := hmid.len
    have l2 := hq.len
    have l3 : P1.length = (msOf Y).length := by rw [hP1]; simp
    refine clY_fin hs (by omega) (fun k h1 h2 => ?_)
    have k1 : k < P.length := by omega
    have k2 : k < P1.length := by omega
    obtain ⟨g1, g2, g3, g4, g5⟩ := hmid.at' k k1 k2
    obtain ⟨f1, f2⟩ := hq.me k h1 k1
    have e1 : P1[k] = basOf (outsOf Y) Y (msOf Y)[k] := by simp only [hP1, List.getElem_map]
    rw [e1] at g1 g2 g3 g4 g5
    have a0 := hq.ls k h1 k1 0 (by omega)
    have a1 := hq.ls k h1 k1 1 (by omega)
    have a2 := hq.ls k h1 k1 2 (by omega)
    have b0 := hq.srt k h1 0 (by omega) k1
    have b1 := hq.srt k h1 1 (by omega) k1
    have b2 := hq.srt k h1 2 (by omega) k1
    have c0 : P[k].at 0 = stOf (outsOf Y) Y (msOf Y)[k] := g3
    have c1 : P[k].at 1 = scD Y (msOf Y)[k] D := g5
    have c2 : P[k].at 2 = chOf (outsOf Y) Y (msOf Y)[k] := g4
    rw [c0] at a0
    rw [c1] at a1
    rw [c2] at a2
    exact ⟨f1.trans g1, f2.trans g2, ⟨a0, b0⟩, ⟨a1.trans (scD_perm _ hD), b1⟩, a2, b2⟩
  rw [← hQ]
  refine ⟨_, ho.r, by rw [rowsC_len]; exact hq.len.symm, fun k x p hx hp => ?_⟩
  obtain ⟨hk, rfl⟩ := List.getElem?_eq_some_iff.1 hp
  obtain ⟨hk2, rfl⟩ := List.getElem?_eq_some_iff.1 hx
  have hkP : k < P.length := by rw [rowsC_len] at hk2; exact hk2
  obtain ⟨f1, f2⟩ := hq.me k hk hkP
  rw [rowsC_get P V k hkP]
  exact ⟨f1.symm, f2.symm, (hb.o k 0 hk (by omega)).r, (hb.o k 1 hk (by omega)).r, (hb.o k 2 hk (by omega)).r⟩
end Go.Proofs.YtiplgpefapeapaaGreatDoor

namespace Go.Proofs.YtiplgpefapeapaaGreatDoor
open Go.RowKit

set_option maxRecDepth 100000 in
set_option maxHeartbeats 40000000 in
theorem claimsM_c (w : World) (x : CtV) (c : Ct) (h : CtW w x c) (hfit : ∀ a ∈ c.an, a.Fit) (hf : c.Few) (hs : SrtA c.an) :
    Calls Tryz.prog 36 #[ctV x] w fun e w' => ∃ v, e = .returned v ∧ LC w' v (clY c.an) ∧ Keeps [] w w' := by
  have hmm := @run_makeMap Tryz.prog
  have hfo := fun (W : World) (hk : Keeps [] w W) => found_c W x c (h.keeps hk) hfit hf
  have han2 := fun (W : World) (hk : Keeps [] w W) => answersM_c W x c (h.keeps hk) hfit hf hs
  have han := h.an
  obtain ⟨x0, x1, x2, x3, x4, ⟨x5, x6, x7⟩, ⟨x8, x9, x10⟩⟩ := x
  simp only [slv] at han
  simp only [ctV, slv] at hfo han2
  obtain ⟨_, _, e1, hla, hca⟩ := han.form
  simp only [Value.slice.injEq] at e1
  obtain ⟨-, e1, -⟩ := e1
  rw [← e1] at hla
  have hx6m : x6 ≤ 9223372036854775807 := by unfold maxLen at hca; omega
  have hA := heap_alloc_new w (.cells #[.int .i64 x0, .int .i64 x1, .int .i64 x2, .int .u64 x3, .int .i64 x4, .slice x5 x6 x7, .slice x8 x9 x10] tCt)
  have hkA := (Keeps.refl [] w).alloc (.cells #[.int .i64 x0, .int .i64 x1, .int .i64 x2, .int .u64 x3, .int .i64 x4, .slice x5 x6 x7, .slice x8 x9 x10] tCt)
  obtain ⟨W, hW⟩ : ∃ W, w.alloc (.cells #[.int .i64 x0, .int .i64 x1, .int .i64 x2, .int .u64 x3, .int .i64 x4, .slice x5 x6 x7, .slice x8 x9 x10] tCt) = W := ⟨_, rfl⟩
  obtain ⟨B, hB⟩ : ∃ B, w.heap.size = B := ⟨_, rfl⟩
  rw [hW] at hA hkA
  rw [hB] at hA
  obtain ⟨Y, hY⟩ : ∃ Y, c.an = Y := ⟨_, rfl⟩
  have hfn := hf.an
  have hfi : ∀ a ∈ Y, a.ins.length ≤ 1000 := by rw [← hY]; exact hf.ins
  rw [hY] at han e1 hfit hfn hs hfo han2 ⊢
  have hfY : Y.length = x6 := e1.symm
  rw [hfY] at hfn
  replace hfit := Lib.hid hfit
  replace hfi := Lib.hid hfi
  replace han := Lib.hid han
  replace hkA := Lib.hid hkA
  replace hW := Lib.hid hW
  replace hB := Lib.hid hB
  replace e1 := Lib.hid e1
  replace hA := Lib.hid hA
  replace hfo := Lib.hid hfo
  replace han2 := Lib.hid han2
  replace hs := Lib.hid hs
  replace hfY := Lib.hid hfY
  clear h hY hf
  simp only [ctV, slv]
  go_enter Tryz.func36, Tryz.ntmps36
  go_upto_region 1 with fail
  rw [hW.out, hB.out]
  have hAd : W.drew.heap[B]? = _ := hA.out
  have hkd := hkA.out.drew
  obtain ⟨i0, i1, i2, i3, i4, i5, i6, if', il⟩ := cl7 hAd
  replace hkd := Lib.hid hkd
  replace hAd := Lib.hid hAd
  refine Free.wp_region_chain (fun i => i == 1 || i == 3) (fun i => true) (fun _ _ => False) (by kernel_rfl) (by kernel_rfl) (by kernel_rfl) ?_
  generalize W.drew = wd at *
  (repeat (first | (apply Free.cw_pure rfl rfl; (intro w'; go_simp <;> exact rfl); go_frame) | (apply Free.cw_steady rfl rfl rfl; (intro w' hS; have q0 := Free.sx_cell hS i0 (fun _ _ hT => hT); have q1 := Free.sx_cell hS i1 (fun _ _ hT => hT); have q2 := Free.sx_cell hS i2 (fun _ _ hT => hT); have q3 := Free.sx_cell hS i3 (fun _ _ hT => hT); have q4 := Free.sx_cell hS i4 (fun _ _ hT => hT); have q5 := Free.sx_cell hS i5 (fun _ _ hT => hT); have q6 := Free.sx_cell hS i6 (fun _ _ hT => hT); go_simp <;> exact rfl); go_frame) | (refine Free.cw_skip rfl ?_; go_frame)))
  refine Free.cw_loud rfl rfl (fun K hK => ?_)
  go_wp2_with fail
  refine (hfo.out _ hkd.out).mono ?_
  rintro e w1 ⟨bK, rfl, hMK, hbK, hk1⟩
  refine hK _ _ rfl (Free.KeepsP.of hk1 (by simp)) ?_
  clear hK K hfo
  have hk01 := hkd.out.trans hk1
  have hAe := (hk1.block _ (lt_of_blk hAd.out) (by simp)).trans hAd.out
  replace hMK := Lib.hid hMK
  replace hk01 := Lib.hid hk01
  replace hAe := Lib.hid hAe
  have hbKl := MapS.M.lt ktK hMK.out
  clear hk1
  (repeat (first | (apply Free.cw_pure rfl rfl; (intro w'; go_simp <;> exact rfl); go_frame) | (apply Free.cw_steady rfl rfl rfl; (intro w' hS; have q0 := Free.sx_cell hS i0 (fun _ _ hT => hT); have q1 := Free.sx_cell hS i1 (fun _ _ hT => hT); have q2 := Free.sx_cell hS i2 (fun _ _ hT => hT); have q3 := Free.sx_cell hS i3 (fun _ _ hT => hT); have q4 := Free.sx_cell hS i4 (fun _ _ hT => hT); have q5 := Free.sx_cell hS i5 (fun _ _ hT => hT); have q6 := Free.sx_cell hS i6 (fun _ _ hT => hT); go_simp <;> exact rfl); go_frame) | (refine Free.cw_skip rfl ?_; go_frame)))
  refine Free.cw_loud rfl rfl (fun K hK => ?_)
  go_wp2_with fail
  refine (han2.out _ hk01.out).mono ?_
  rintro e w2 ⟨bS, R, rfl, hMS, hR, hbS, hk2⟩
  refine hK _ _ rfl (Free.KeepsP.of hk2 (by simp)) ?_
  clear hK K han2
  have hk02 := hk01.out.trans hk2
  have hAf := (hk2.block _ (lt_of_blk hAe.out) (by simp)).trans hAe.out
  have hMK2 := hMK.out.keeps ktK hk2
  replace hMK := Lib.hid hMK2
  replace hMS := Lib.hid hMS
  replace hR := Lib.hid hR
  replace hk02 := Lib.hid hk02
  have hbSl := MapS.M.lt ktS hMS.out
  have hbK2 : bK < w2.heap.size := MapS.M.lt ktK hMK.out
  (repeat (first | (apply Free.cw_pure rfl rfl; (intro w'; go_simp <;> exact rfl); go_frame) | (apply Free.cw_steady rfl rfl rfl; (intro w' hS; have q0 := Free.sx_cell hS i0 (fun _ _ hT => hT); have q1 := Free.sx_cell hS i1 (fun _ _ hT => hT); have q2 := Free.sx_cell hS i2 (fun _ _ hT => hT); have q3 := Free.sx_cell hS i3 (fun _ _ hT => hT); have q4 := Free.sx_cell hS i4 (fun _ _ hT => hT); have q5 := Free.sx_cell hS i5 (fun _ _ hT => hT); have q6 := Free.sx_cell hS i6 (fun _ _ hT => hT); go_simp <;> exact rfl); go_frame) | (refine Free.cw_skip rfl ?_; go_frame)))
  refine Free.cw_nil ?_
  clear i0 i1 i2 i3 i4 i5 i6 if' il hk2 hk01 hMK2
  have hM := MapS.M.made ktZ (vf := pV) w2
  have hkM : Keeps [] w2 (w2.alloc (.map #[] 0)) := (Keeps.refl _ _).alloc _
  have hk03 := hk02.out.trans hkM
  have hAg := (hkM.block _ (lt_of_blk hAf) (by simp)).trans hAf
  have hMK3 := hMK.out.keeps ktK hkM
  have hMS3 := hMS.out.keeps ktS hkM
  have hZ3 : (w2.alloc (.map #[] 0)).heap.size = w2.heap.size + 1 := by simp
  replace hMK := Lib.hid hMK3
  replace hMS := Lib.hid hMS3
  replace hM := Lib.hid hM
  replace hk03 := Lib.hid hk03
  replace hAg := Lib.hid hAg
  clear hMK3 hMS3 hkM hAf hk02
  go_upto_region 3 with fail
  generalize (w2.alloc (.map #[] 0)) = w3 at *
  obtain ⟨bM, hbMe⟩ : ∃ b, w2.heap.size = b := ⟨_, rfl⟩
  obtain ⟨Z0, hZ0⟩ : ∃ z, w3.heap.size = z := ⟨_, rfl⟩
  rw [hbMe] at hM hZ3 hbSl hbK2 ⊢
  rw [hZ0] at hZ3
  clear hmm hbMe
  have hwZ : w.heap.size ≤ Z0 := by have := hk03.out.size; omega
  have hwM : w.heap.size ≤ bM := by have h1 := hkd.out.size; omega
  replace hZ0 := Lib.hid hZ0
  obtain ⟨O, hO⟩ : ∃ O, outsOf Y = O := ⟨_, rfl⟩
  rw [hO] at hMK
  replace hO := Lib.hid hO
  obtain ⟨i0, i1, i2, i3, i4, i5, i6, if', il⟩ := cl7 hAg.out
  go_wp2
  go_loopw [27] (fun i wr => ∃ (k : Nat) (bs : List Nat) (V : Nat → Nat → SlT), i = .int .i64 k ∧ k ≤ x6 ∧ Hid (MapS.M ktZ pV wr bM (((basC O (Y.take k)).map PCl.m).zip bs)) ∧ Hid (BX wr Z0 bs (basC O (Y.take k)) V) ∧ Hid (Keeps [bM] w3 wr)) (fun i _ => x6 - (intOf i).toNat)
  case atStart => exact ⟨0, [], fun _ _ => nilT, rfl, by omega, hM, Lib.hid (BX.nil _ _ _), Lib.hid (Keeps.refl _ _)⟩
  case round =>
    clear hM i0 i1 i2 i3 i4 i5 i6 if' il
    obtain ⟨k, bs, V, rfl, hk, hMr, hXr, hkr⟩ := hrel
    by_cases hlt : k < x6
    · have hlt2 : (k : Int) < x6 := by omega
      have hkY : k < Y.length := by rw [hfY.out]; exact hlt
      have hkwr : Keeps [] w wr := hk03.out.fresh hkr.out (fun b hb => by simp at hb; subst hb; exact .inr hwM)
      obtain ⟨g, o, c', y, hv, hy, he⟩ := (han.out.keeps hkwr).elem hkY
      rw [hfY.out] at hv
      cases hv
      have hao := hfit.out _ (List.getElem_mem hkY)
      have hst := basC_take O Y k hkY
      have htk : Y.take (k + 1) = Y.take k ++ [Y[k]] := List.take_succ_eq_append_getElem hkY
      have hs1 : SrtA (Y.take k ++ [Y[k]]) := by rw [← htk]; exact List.Pairwise.sublist (List.take_sublist _ _) hs.out
      have hs0 : SrtA (Y.take k) := List.Pairwise.sublist (List.take_sublist _ _) hs.out
      have hms := basC_ms (O := O) hs0
      have hmsl := ms_srt hs0
      have hnx := basC_next (O := O) hs1
      have hsm : ∀ p ∈ basC O (Y.take k), p.st.length ≤ 1000 ∧ p.sc.length ≤ 1000 ∧ p.ch.length ≤ 1000 := fun p hp => by
        obtain ⟨q1, q2, q3⟩ := basC_small hs0 hp
        rw [List.length_take] at q1 q3
        rw [q2]
        exact ⟨by omega, by simp, by omega⟩
      obtain ⟨a, ha⟩ : ∃ a, Y[k] = a := ⟨_, rfl⟩
      rw [ha] at hy hst hao hnx
      obtain ⟨P, hP⟩ : ∃ P, basC O (Y.take k) = P := ⟨_, rfl⟩
      rw [hP] at hst hnx hMr hXr hms hsm
      have hPl : P.length ≤ 1000 := by
        have h1 := congrArg List.length hms
        have h2 := msL_len (Y.take k)
        rw [List.length_map] at h1
        rw [List.length_take] at h2
        omega
      have hnd : (P.map PCl.m).Nodup := by rw [hms]; exact lt_nodup hmsl.1
      have q0 := hy.m
      have q1 := hy.ow
      have q2 := hy.n
      have q3 := hy.ep
      obtain ⟨y0, y1, y2, y3, y4, y5, y6, y7, y8, y9⟩ := y
      simp only at q0 q1 q2 q3
      subst q0 q1 q2 q3
      have g0 := he 0 _ rfl
      have g1 := he 1 _ rfl
      have g2 := he 2 _ rfl
      have g3 := he 3 _ rfl
      have g4 := he 4 _ rfl
      have g5 := he 5 _ rfl
      have g6 := he 6 _ rfl
      have g7 := he 7 _ rfl
      simp only [AnV.v, Nat.add_zero] at g0 g1 g2 g3 g4 g5 g6 g7
      have hbA := heap_alloc_new wr (.cells #[.int .i64 a.m, .int .i64 a.ow, .int .u64 a.n, .int .i64 a.ep, .bool y4, .bool y5, .int .i64 y6, .slice y7 y8 y9] tA)
      have hkn := (Keeps.refl [] wr).alloc (.cells #[.int .i64 a.m, .int .i64 a.ow, .int .u64 a.n, .int .i64 a.ep, .bool y4, .bool y5, .int .i64 y6, .slice y7 y8 y9] tA)
      have hkc := hkr.out.trans hkn.of_nil
      have hMA := hMr.out.keeps ktZ hkn
      have hXA2 := hXr.out.keeps hkn
      have hqk : qOk (a.ow, a.m, a.n) := ⟨hao.q.2.1, hao.q.1, hao.q.2.2⟩
      have hwm : W64 a.m := hao.q.1
      have hbMr : bM < wr.heap.size := MapS.M.lt ktZ hMr.out
      replace hst := Lib.hid hst
      replace hP := Lib.hid hP
      replace hbA := Lib.hid hbA
      replace hkc := Lib.hid hkc
      replace hMA := Lib.hid hMA
      replace hXA2 := Lib.hid hXA2
      replace hqk := Lib.hid hqk
      replace ha := Lib.hid ha
      replace hsm := Lib.hid hsm
      replace hnd := Lib.hid hnd
      replace htk := Lib.hid htk
      replace hms := Lib.hid hms
      clear he hy hkn hkwr hkr hMr hXr hs1 hs0 hmsl hao
      go_upto_region 6 with fail
      generalize (wr.alloc (.cells #[.int .i64 a.m, .int .i64 a.ow, .int .u64 a.n, .int .i64 a.ep, .bool y4, .bool y5, .int .i64 y6, .slice y7 y8 y9] tA)) = wc at *
      obtain ⟨XA, hXA⟩ : ∃ X, wr.heap.size = X := ⟨_, rfl⟩
      rw [hXA] at hbA hbMr ⊢
      replace hXA := Lib.hid hXA
      clear g0 g1 g2 g3 g4 g5 g6 g7
      rcases hnx with ⟨n, hn, ⟨hnl, hnm⟩, hop⟩ | ⟨hno, hop⟩
      · obtain ⟨P2, hPP⟩ : ∃ P2, P = P2 := ⟨_, rfl⟩
        rw [hPP] at hop
        subst hPP
        have hP2 := Lib.hid hop
        have hn2 := hn
        obtain ⟨bs2, hbse⟩ : ∃ b, bs = b := ⟨_, rfl⟩
        subst hbse
        obtain ⟨V2, hVe⟩ : ∃ b, V = b := ⟨_, rfl⟩
        subst hVe
        have hbl : n < bs.length := by rw [hXA2.out.len]; exact hnl
        have hgz := get_zip (ms := P.map PCl.m) (bs := bs) (by rw [List.length_map]; exact hXA2.out.len) hnd.out n (by rw [List.length_map]; exact hnl) hbl
        rw [List.getElem_map, hnm] at hgz
        obtain ⟨gb, hgb⟩ : ∃ g, bs[n] = g := ⟨_, rfl⟩
        rw [hgb] at hgz
        have hlz := MapS.M.look ktZ Tryz.underlying99 (.pointer none) zeroP hMA.out hwm
        rw [hgz] at hlz
        simp only [ktZ, zV, Option.map_some, Option.getD_some, pV] at hlz
        have hMM := hMA
        have hBX := hXA2
        replace hgb := Lib.hid hgb
        replace hnm := Lib.hid hnm
        clear hop hgz hMA hXA2
        obtain ⟨s0, s1, s2, s3, s4, s5, s6, s7, sf, sl⟩ := cl8 hbA.out
        go_upto_region 10 with fail
        clear s0 s1 s2 s3 s4 s5 s6 s7 sf sl hlz
        obtain ⟨s0, s1, s2, s3, s4, s5, s6, s7, sf, sl⟩ := cl8 hbA.out
        have hMKc := (hMK.out.kept ktK hkc.out (by simp; omega))
        have hlk := MapS.M.look_ok ktK Tryz.underlying52 (zV 0) zeroZ hMKc hqk.out
        obtain ⟨go, hgo⟩ : ∃ go, MapS.get (a.ow, a.m, a.n) O = go := ⟨_, rfl⟩
        rw [hgo] at hlk
        obtain ⟨ov, hov⟩ : ∃ ov : Int, (go.map zV).getD (zV 0) = zV ov ∧ (∀ u, go = some u → u = ov) := by
          cases go with
          | none => exact ⟨_, rfl, fun u h => by cases h⟩
          | some u => exact ⟨u, rfl, fun v h => by cases h; rfl⟩
        obtain ⟨ob, hob⟩ : ∃ ob, go.isSome = ob := ⟨_, rfl⟩
        rw [hov.1, hob] at hlk
        simp only [ktK, qV, zV] at hlk
        have hll : ∀ j, j < 3 → ((P[n]'(by omega)).at j).length ≤ 1000 := fun j hj => by
          have := hsm.out (P[n]'(by omega)) (List.getElem_mem _)
          match j, hj with
          | 0, _ => exact this.1
          | 1, _ => exact this.2.1
          | 2, _ => exact this.2.2
        have hcz := hkc.out.size
        replace hov := Lib.hid hov
        replace hgo := Lib.hid hgo
        replace hob := Lib.hid hob
        clear hMKc
        cases ob with
        | true =>
          have hget : MapS.get (a.ow, a.m, a.n) O = some ov := by
            obtain ⟨u, hu⟩ := Option.isSome_iff_exists.1 hob.out
            rw [hgo.out, hu, hov.out.2 u hu]
          replace hll := Lib.hid (hll 0 (by omega))
          obtain ⟨⟨sa, sn, sc⟩, hv0⟩ : ∃ x, V n 0 = x := ⟨_, rfl⟩
          have hOn := hBX.out.o n 0 (by omega) (by omega)
          rw [hv0] at hOn
          simp only [slv] at hOn
          have hbx := (hBX.out.b n (by omega) (by have := hBX.out.len; omega)).2
          rw [hgb.out] at hbx
          simp only [bxC] at hbx
          obtain ⟨m0, m1, m2, m3, m4, mf, ml⟩ := cl5 hbx
          rw [hv0] at m2
          simp only [slv] at m2
          have hgZ : Z0 ≤ gb := by
            have := (hBX.out.b n (by omega) (by have := hBX.out.len; omega)).1
            rw [hgb.out] at this
            exact this
          have hne1 : ∀ b, (Value.slice sa sn sc).ownBlock = some b → b ≠ gb := fun b e e2 => by
            subst e2
            obtain ⟨cs, hc⟩ := hOn.tag _ e
            exact tag_ne hc hbx (by decide) rfl
          have hne2 : ∀ b, (Value.slice sa sn sc).ownBlock = some b → b ≠ XA := fun b e e2 => by
            subst e2
            obtain ⟨cs, hc⟩ := hOn.tag _ e
            exact tag_ne hc hbA.out (by decide) rfl
          replace hne2 := Lib.hid hne2
          have hXg : XA ≠ gb := fun e => by
            subst e
            exact tag_ne hbA.out hbx (by decide) rfl
          replace hne1 := Lib.hid hne1
          replace hOn := Lib.hid hOn

          go_wp2
          refine Free.wp_region_chain (fun i => i == 11 || i == 12 || i == 15) (fun i => true) (fun j b => (j = 12 ∧ (Value.slice sa sn sc).ownBlock = some b) ∨ (j = 15 ∧ b = gb)) (by kernel_rfl) (by kernel_rfl) (by kernel_rfl) ?_
          (repeat (first | (apply Free.cw_pure rfl rfl; (intro w'; go_simp <;> exact rfl); go_frame) | (apply Free.cw_steady rfl rfl rfl; (intro w' hS; have q0 := Free.sx_cell hS m2 (fun j hp hT => Or.elim hT (fun h => hne1.out _ h.2 rfl) (fun h => by obtain ⟨rfl, _⟩ := h; exact absurd hp (by decide +kernel))); have q1 := Free.sx_cell hS s1 (fun j hp hT => Or.elim hT (fun h => hne2.out _ h.2 rfl) (fun h => hXg h.2)); have q2 := Free.sx_cell hS s2 (fun j hp hT => Or.elim hT (fun h => hne2.out _ h.2 rfl) (fun h => hXg h.2)); go_simp <;> exact rfl); go_frame) | (refine Free.cw_skip rfl ?_; go_frame)))
          refine Free.cw_loud rfl rfl (fun K hK => ?_)
          go_wp2
          refine hK _ _ rfl (Free.KeepsP.alloc _ _ _) ?_
          clear hK K
          (repeat (apply Free.cw_pure rfl rfl; (intro w'; go_simp <;> exact rfl); go_frame))
          refine Free.cw_loud rfl rfl (fun K hK => ?_)
          have hkE : Keeps [] wc ((wc.alloc (.cells #[.int .i64 a.ow, .int .u64 a.n, .int .i64 ov] tN)).drew) := ((Keeps.refl _ _).alloc _).drew
          have hmade := (Sh.O.one shT wc (a.ow, a.n, ov) #[.int .i64 a.ow, .int .u64 a.n, .int .i64 ov] tN 0 rfl (by omega)).keeps ((Keeps.refl [] _).drew)
          have hOE := hOn.out.keeps hkE
          have hXE := hBX.out.keeps hkE
          have hlE := hkE.size
          refine Sh.wp_app shT Z0 infoN rfl Tryz.underlying44 (.slice sa sn sc) (.slice (some ⟨wc.heap.size, 0, none⟩) 1 1) (P[n].at 0) [(a.ow, a.n, ov)] _ _ rfl rfl rfl hOE hmade.r (by have := hll.out; simp only [List.length_cons, List.length_nil]; omega) (Nat.le_trans (show Z0 ≤ wc.heap.size by have h1 := hkc.out.size; have h2 := hZ0.out; omega) hlE) ?_
          intro v5 w5 hO5 hG5
          obtain ⟨a5, c5, rfl⟩ := hO5.form
          obtain ⟨N5, hN5⟩ : ∃ q, (P[n].at 0 ++ [(a.ow, a.n, ov)]).length = q := ⟨_, rfl⟩
          rw [hN5] at hO5 hG5 ⊢
          refine hK _ _ rfl (Free.KeepsP.of hG5.keepsO (fun b hb => .inl ⟨rfl, by simpa using hb⟩)) ?_
          clear hK K
          have hX6 := hXE.app2 (k := n) (j := 0) (gb := gb) (by omega) (by have := hBX.out.len; omega) hgb.out (by omega) (v' := (a5, N5, c5)) (by rw [hv0]; exact hG5) hO5
          have hng5 : gb ∉ (Value.slice sa sn sc).ownBlock.toList := fun hm => hne1.out gb (by simpa using hm) rfl
          have hgl5 : gb < ((wc.alloc (.cells #[.int .i64 a.ow, .int .u64 a.n, .int .i64 ov] tN)).drew).heap.size := Nat.lt_of_lt_of_le ml hlE
          have m5 := (hG5.keepsO.cell gb 2 hgl5 hng5).trans (hkE.val m2)
          have f5 := (hG5.keepsO.frozen gb 2 hgl5 hng5).trans ((hkE.frozen gb 2 ml (by simp)).trans (mf _))
          have hkS : Keeps [gb] w5 (w5.setCell ⟨gb, 2 + 0, none⟩ (.slice a5 N5 c5)) := (Keeps.refl _ _).setCell (.inr (by simp)) _
          have hk6 : Keeps [bM] w3 (w5.setCell ⟨gb, 2 + 0, none⟩ (.slice a5 N5 c5)) := ((hkc.out.trans hkE.of_nil).fresh hG5.keepsO (fun b hb => .inr (by have h1 := hOE.ge b (by simpa using hb); have h2 := hZ0.out; omega))).fresh hkS (fun b hb => by simp at hb; subst hb; exact .inr (by have h2 := hZ0.out; omega))
          have hM6 := ((hMM.out.keeps ktZ hkE).kept ktZ hG5.keepsO (fun hm => by have := hOE.ge bM (by simpa using hm); omega)).kept ktZ hkS (by simp; omega)
          have hgl6 := lt_of_cell m5
          rw [← map_set_upd P (n := n) (by omega) 0 (P[n].at 0 ++ [(a.ow, a.n, ov)])] at hM6
          have hneed : P.set n (P[n].upd 0 (P[n].at 0 ++ [(a.ow, a.n, ov)])) = basC O (Y.take (k + 1)) := by
            rw [hst.out]
            unfold stepB
            rw [hP2.out]
            unfold needC
            rw [hget]
            exact (updL_at hn2 0 (fun l => l ++ [(a.ow, a.n, ov)])).symm
          rw [hneed] at hX6 hM6
          clear hneed
          replace hX6 := Lib.hid hX6
          replace hk6 := Lib.hid hk6
          replace hM6 := Lib.hid hM6
          replace hkS := Lib.hid hkS
          clear hO5 hG5 hmade hOE hXE hkE hlE hng5 hgl5 hbx
          (repeat (apply Free.cw_pure rfl rfl; (intro w'; go_simp <;> exact rfl); go_frame))
          refine Free.cw_loud rfl rfl (fun K hK => ?_)
          go_wp2
          refine hK _ _ rfl (Free.KeepsP.of hkS.out (fun b hb => .inr ⟨trivial, by simpa using hb⟩)) ?_
          clear hK K
          refine Free.cw_nil ?_
          go_wp2
          go_roundw
          case rel => exact ⟨k + 1, bs, _, rfl, by omega, hM6, hX6, hk6⟩
          case measure => simp [intOf]; omega
        | false =>
          have hget : MapS.get (a.ow, a.m, a.n) O = none := by
            rw [hgo.out]; simpa using hob.out
          replace hll := Lib.hid (hll 2 (by omega))
          obtain ⟨⟨sa, sn, sc⟩, hv0⟩ : ∃ x, V n 2 = x := ⟨_, rfl⟩
          have hOn := hBX.out.o n 2 (by omega) (by omega)
          rw [hv0] at hOn
          simp only [slv] at hOn
          have hbx := (hBX.out.b n (by omega) (by have := hBX.out.len; omega)).2
          rw [hgb.out] at hbx
          simp only [bxC] at hbx
          obtain ⟨m0, m1, m2, m3, m4, mf, ml⟩ := cl5 hbx
          rw [hv0] at m4
          simp only [slv] at m4
          have hgZ : Z0 ≤ gb := by
            have := (hBX.out.b n (by omega) (by have := hBX.out.len; omega)).1
            rw [hgb.out] at this
            exact this
          have hne1 : ∀ b, (Value.slice sa sn sc).ownBlock = some b → b ≠ gb := fun b e e2 => by
            subst e2
            obtain ⟨cs, hc⟩ := hOn.tag _ e
            exact tag_ne hc hbx (by decide) rfl
          have hne2 : ∀ b, (Value.slice sa sn sc).ownBlock = some b → b ≠ XA := fun b e e2 => by
            subst e2
            obtain ⟨cs, hc⟩ := hOn.tag _ e
            exact tag_ne hc hbA.out (by decide) rfl
          replace hne2 := Lib.hid hne2
          have hXg : XA ≠ gb := fun e => by
            subst e
            exact tag_ne hbA.out hbx (by decide) rfl
          replace hne1 := Lib.hid hne1
          replace hOn := Lib.hid hOn

          go_wp2
          refine Free.wp_region_chain (fun i => i == 10 || i == 11 || i == 14) (fun i => true) (fun j b => (j = 11 ∧ (Value.slice sa sn sc).ownBlock = some b) ∨ (j = 14 ∧ b = gb)) (by kernel_rfl) (by kernel_rfl) (by kernel_rfl) ?_
          (repeat (first | (apply Free.cw_pure rfl rfl; (intro w'; go_simp <;> exact rfl); go_frame) | (apply Free.cw_steady rfl rfl rfl; (intro w' hS; have q0 := Free.sx_cell hS m4 (fun j hp hT => Or.elim hT (fun h => hne1.out _ h.2 rfl) (fun h => by obtain ⟨rfl, _⟩ := h; exact absurd hp (by decide +kernel))); have q1 := Free.sx_cell hS s1 (fun j hp hT => Or.elim hT (fun h => hne2.out _ h.2 rfl) (fun h => hXg h.2)); have q2 := Free.sx_cell hS s2 (fun j hp hT => Or.elim hT (fun h => hne2.out _ h.2 rfl) (fun h => hXg h.2)); go_simp <;> exact rfl); go_frame) | (refine Free.cw_skip rfl ?_; go_frame)))
          refine Free.cw_loud rfl rfl (fun K hK => ?_)
          go_wp2
          refine hK _ _ rfl (Free.KeepsP.alloc _ _ _) ?_
          clear hK K
          (repeat (apply Free.cw_pure rfl rfl; (intro w'; go_simp <;> exact rfl); go_frame))
          refine Free.cw_loud rfl rfl (fun K hK => ?_)
          have hkE : Keeps [] wc ((wc.alloc (.cells #[.int .i64 a.ow, .int .u64 a.n, .int .i64 0] tN)).drew) := ((Keeps.refl _ _).alloc _).drew
          have hmade := (Sh.O.one shT wc (a.ow, a.n, 0) #[.int .i64 a.ow, .int .u64 a.n, .int .i64 0] tN 0 rfl (by omega)).keeps ((Keeps.refl [] _).drew)
          have hOE := hOn.out.keeps hkE
          have hXE := hBX.out.keeps hkE
          have hlE := hkE.size
          refine Sh.wp_app shT Z0 infoN rfl Tryz.underlying44 (.slice sa sn sc) (.slice (some ⟨wc.heap.size, 0, none⟩) 1 1) (P[n].at 2) [(a.ow, a.n, 0)] _ _ rfl rfl rfl hOE hmade.r (by have := hll.out; simp only [List.length_cons, List.length_nil]; omega) (Nat.le_trans (show Z0 ≤ wc.heap.size by have h1 := hkc.out.size; have h2 := hZ0.out; omega) hlE) ?_
          intro v5 w5 hO5 hG5
          obtain ⟨a5, c5, rfl⟩ := hO5.form
          obtain ⟨N5, hN5⟩ : ∃ q, (P[n].at 2 ++ [(a.ow, a.n, 0)]).length = q := ⟨_, rfl⟩
          rw [hN5] at hO5 hG5 ⊢
          refine hK _ _ rfl (Free.KeepsP.of hG5.keepsO (fun b hb => .inl ⟨rfl, by simpa using hb⟩)) ?_
          clear hK K
          have hX6 := hXE.app2 (k := n) (j := 2) (gb := gb) (by omega) (by have := hBX.out.len; omega) hgb.out (by omega) (v' := (a5, N5, c5)) (by rw [hv0]; exact hG5) hO5
          have hng5 : gb ∉ (Value.slice sa sn sc).ownBlock.toList := fun hm => hne1.out gb (by simpa using hm) rfl
          have hgl5 : gb < ((wc.alloc (.cells #[.int .i64 a.ow, .int .u64 a.n, .int .i64 0] tN)).drew).heap.size := Nat.lt_of_lt_of_le ml hlE
          have m5 := (hG5.keepsO.cell gb 4 hgl5 hng5).trans (hkE.val m4)
          have f5 := (hG5.keepsO.frozen gb 4 hgl5 hng5).trans ((hkE.frozen gb 4 ml (by simp)).trans (mf _))
          have hkS : Keeps [gb] w5 (w5.setCell ⟨gb, 2 + 2, none⟩ (.slice a5 N5 c5)) := (Keeps.refl _ _).setCell (.inr (by simp)) _
          have hk6 : Keeps [bM] w3 (w5.setCell ⟨gb, 2 + 2, none⟩ (.slice a5 N5 c5)) := ((hkc.out.trans hkE.of_nil).fresh hG5.keepsO (fun b hb => .inr (by have h1 := hOE.ge b (by simpa using hb); have h2 := hZ0.out; omega))).fresh hkS (fun b hb => by simp at hb; subst hb; exact .inr (by have h2 := hZ0.out; omega))
          have hM6 := ((hMM.out.keeps ktZ hkE).kept ktZ hG5.keepsO (fun hm => by have := hOE.ge bM (by simpa using hm); omega)).kept ktZ hkS (by simp; omega)
          have hgl6 := lt_of_cell m5
          rw [← map_set_upd P (n := n) (by omega) 2 (P[n].at 2 ++ [(a.ow, a.n, 0)])] at hM6
          have hneed : P.set n (P[n].upd 2 (P[n].at 2 ++ [(a.ow, a.n, 0)])) = basC O (Y.take (k + 1)) := by
            rw [hst.out]
            unfold stepB
            rw [hP2.out]
            unfold needC
            rw [hget]
            exact (updL_at hn2 2 (fun l => l ++ [(a.ow, a.n, 0)])).symm
          rw [hneed] at hX6 hM6
          clear hneed
          replace hX6 := Lib.hid hX6
          replace hk6 := Lib.hid hk6
          replace hM6 := Lib.hid hM6
          replace hkS := Lib.hid hkS
          clear hO5 hG5 hmade hOE hXE hkE hlE hng5 hgl5 hbx
          (repeat (apply Free.cw_pure rfl rfl; (intro w'; go_simp <;> exact rfl); go_frame))
          refine Free.cw_loud rfl rfl (fun K hK => ?_)
          go_wp2
          refine hK _ _ rfl (Free.KeepsP.of hkS.out (fun b hb => .inr ⟨trivial, by simpa using hb⟩)) ?_
          clear hK K
          refine Free.cw_nil ?_
          go_wp2
          go_roundw
          case rel => exact ⟨k + 1, bs, _, rfl, by omega, hM6, hX6, hk6⟩
          case measure => simp [intOf]; omega
      · obtain ⟨P2, hPP⟩ : ∃ P2, P ++ [(⟨a.m, a.ep, [], [], []⟩ : PCl)] = P2 := ⟨_, rfl⟩
        rw [hPP] at hop
        have hP2 := Lib.hid hop
        obtain ⟨n, hn⟩ : ∃ n, P.length = n := ⟨_, rfl⟩
        have hn2 : P2.length = n + 1 := by rw [← hPP, ← hn]; simp
        have hgz := get_zip_none (ms := P.map PCl.m) (bs := bs) (m := a.m) (fun hm => by
          obtain ⟨p, hp, e⟩ := List.mem_map.1 hm
          exact hno p hp e)
        have hlz := MapS.M.look ktZ Tryz.underlying99 (.pointer none) zeroP hMA.out hwm
        rw [hgz] at hlz
        simp only [ktZ, zV, Option.map_none, Option.getD_none, pV] at hlz
        obtain ⟨s0, s1, s2, s3, s4, s5, s6, s7, sf, sl⟩ := cl8 hbA.out
        go_upto_region 9 with fail
        clear s0 s1 s2 s3 s4 s5 s6 s7 sf sl hlz
        have hbB := heap_alloc_new wc (.cells #[.int .i64 a.m, .int .i64 a.ep, .slice none 0 0, .slice none 0 0, .slice none 0 0] tC)
        have hkB := (Keeps.refl [] wc).alloc (.cells #[.int .i64 a.m, .int .i64 a.ep, .slice none 0 0, .slice none 0 0, .slice none 0 0] tC)
        have hMB := hMA.out.keeps ktZ hkB
        have hcs := hkc.out.size
        have hXB := hXA2.out.push hkB a.m a.ep (Nat.le_refl _) (by have := hZ0.out; omega) hbB
        have hbAB := (hkB.block _ (lt_of_blk hbA.out) (by simp)).trans hbA.out
        have hkcB := hkc.out.trans hkB.of_nil
        have hzl : ((P.map PCl.m).zip bs).length < maxLen := by
          rw [List.length_zip, List.length_map]
          unfold maxLen
          omega
        obtain ⟨wk, hrun, hMk, hkk⟩ := MapS.M.putNew ktZ Tryz.underlying99 hMB hwm hgz hzl wc.heap.size
        simp only [ktZ, zV, pV] at hrun
        rw [← zip_snoc (by rw [List.length_map]; exact hXA2.out.len)] at hMk
        have hmz : P.map PCl.m ++ [a.m] = P2.map PCl.m := by rw [← hPP, List.map_append]; rfl
        rw [hmz] at hMk
        rw [hPP] at hXB
        have hbM2 : bM < wc.heap.size := MapS.M.lt ktZ hMA.out
        have hXk := hXB.keepT hkk (fun b hb cs => by
          simp at hb
          subst hb
          obtain ⟨es, ec, hmap⟩ := hMB.isMap
          rw [hmap]
          exact ⟨nofun, nofun⟩)
        have hbAk := (hkk.block _ (lt_of_blk hbAB) (by simp; omega)).trans hbAB
        have hkck := hkcB.trans hkk
        obtain ⟨s0, s1, s2, s3, s4, s5, s6, s7, sf, sl⟩ := cl8 hbAB
        replace hMk := Lib.hid hMk
        replace hXk := Lib.hid hXk
        replace hkck := Lib.hid hkck
        replace hbAk := Lib.hid hbAk
        replace hbB := Lib.hid hbB
        replace hn := Lib.hid hn
        obtain ⟨bs2, hbs2⟩ : ∃ b, bs ++ [wc.heap.size] = b := ⟨_, rfl⟩
        obtain ⟨V2, hV2⟩ : ∃ v, (fun a c => if a = P.length then nilT else V a c) = v := ⟨_, rfl⟩
        rw [hbs2] at hMk hXk
        rw [hV2] at hXk
        have hgb : ∀ hb : n < bs2.length, bs2[n] = wc.heap.size := fun hb => by
          have := hXA2.out.len
          have hnn := hn.out
          simp only [← hbs2]
          rw [List.getElem_append_right (by omega)]
          simp
        have hsm2 : ∀ p ∈ P2, p.st.length ≤ 1000 ∧ p.sc.length ≤ 1000 ∧ p.ch.length ≤ 1000 := fun p hp => by
          rw [← hPP] at hp
          rcases List.mem_append.1 hp with hp | hp
          · exact hsm.out p hp
          · rw [List.mem_singleton.1 hp]; simp
        replace hsm := Lib.hid hsm2
        replace hgb := Lib.hid hgb
        replace hbs2 := Lib.hid hbs2
        replace hV2 := Lib.hid hV2
        replace hPP := Lib.hid hPP
        replace hmz := Lib.hid hmz
        clear hMA hXA2 hMB hXB hkB hkk hkcB hbAB hgz hop hno hsm2 hcs hzl
        go_upto_region 10 with fail
        clear s0 s1 s2 s3 s4 s5 s6 s7 sf sl hrun
        obtain ⟨gb, hgbe⟩ : ∃ g, wc.heap.size = g := ⟨_, rfl⟩
        rw [hgbe] at hgb hbB ⊢
        have hgb2 := hgb.out
        clear hgb hbB hbA hkc hbM2 hbs2 hgbe
        clear wc
        have hMM := hMk
        have hBX := hXk
        have hkc := hkck
        have hbA := hbAk
        have hlb : n < bs2.length := by rw [hXk.out.len]; omega
        have hgb := Lib.hid (hgb2 hlb)
        clear hMk hXk hkck hbAk hgb2
        generalize wk = wc at *
        obtain ⟨s0, s1, s2, s3, s4, s5, s6, s7, sf, sl⟩ := cl8 hbA.out
        have hMKc := (hMK.out.kept ktK hkc.out (by simp; omega))
        have hlk := MapS.M.look_ok ktK Tryz.underlying52 (zV 0) zeroZ hMKc hqk.out
        obtain ⟨go, hgo⟩ : ∃ go, MapS.get (a.ow, a.m, a.n) O = go := ⟨_, rfl⟩
        rw [hgo] at hlk
        obtain ⟨ov, hov⟩ : ∃ ov : Int, (go.map zV).getD (zV 0) = zV ov ∧ (∀ u, go = some u → u = ov) := by
          cases go with
          | none => exact ⟨_, rfl, fun u h => by cases h⟩
          | some u => exact ⟨u, rfl, fun v h => by cases h; rfl⟩
        obtain ⟨ob, hob⟩ : ∃ ob, go.isSome = ob := ⟨_, rfl⟩
        rw [hov.1, hob] at hlk
        simp only [ktK, qV, zV] at hlk
        have hll : ∀ j, j < 3 → ((P2[n]'(by omega)).at j).length ≤ 1000 := fun j hj => by
          have := hsm.out (P2[n]'(by omega)) (List.getElem_mem _)
          match j, hj with
          | 0, _ => exact this.1
          | 1, _ => exact this.2.1
          | 2, _ => exact this.2.2
        have hcz := hkc.out.size
        replace hov := Lib.hid hov
        replace hgo := Lib.hid hgo
        replace hob := Lib.hid hob
        clear hMKc
        cases ob with
        | true =>
          have hget : MapS.get (a.ow, a.m, a.n) O = some ov := by
            obtain ⟨u, hu⟩ := Option.isSome_iff_exists.1 hob.out
            rw [hgo.out, hu, hov.out.2 u hu]
          replace hll := Lib.hid (hll 0 (by omega))
          obtain ⟨⟨sa, sn, sc⟩, hv0⟩ : ∃ x, V2 n 0 = x := ⟨_, rfl⟩
          have hOn := hBX.out.o n 0 (by omega) (by omega)
          rw [hv0] at hOn
          simp only [slv] at hOn
          have hbx := (hBX.out.b n (by omega) (by have := hBX.out.len; omega)).2
          rw [hgb.out] at hbx
          simp only [bxC] at hbx
          obtain ⟨m0, m1, m2, m3, m4, mf, ml⟩ := cl5 hbx
          rw [hv0] at m2
          simp only [slv] at m2
          have hgZ : Z0 ≤ gb := by
            have := (hBX.out.b n (by omega) (by have := hBX.out.len; omega)).1
            rw [hgb.out] at this
            exact this
          have hne1 : ∀ b, (Value.slice sa sn sc).ownBlock = some b → b ≠ gb := fun b e e2 => by
            subst e2
            obtain ⟨cs, hc⟩ := hOn.tag _ e
            exact tag_ne hc hbx (by decide) rfl
          have hne2 : ∀ b, (Value.slice sa sn sc).ownBlock = some b → b ≠ XA := fun b e e2 => by
            subst e2
            obtain ⟨cs, hc⟩ := hOn.tag _ e
            exact tag_ne hc hbA.out (by decide) rfl
          replace hne2 := Lib.hid hne2
          have hXg : XA ≠ gb := fun e => by
            subst e
            exact tag_ne hbA.out hbx (by decide) rfl
          replace hne1 := Lib.hid hne1
          replace hOn := Lib.hid hOn

          go_wp2
          refine Free.wp_region_chain (fun i => i == 11 || i == 12 || i == 15) (fun i => true) (fun j b => (j = 12 ∧ (Value.slice sa sn sc).ownBlock = some b) ∨ (j = 15 ∧ b = gb)) (by kernel_rfl) (by kernel_rfl) (by kernel_rfl) ?_
          (repeat (first | (apply Free.cw_pure rfl rfl; (intro w'; go_simp <;> exact rfl); go_frame) | (apply Free.cw_steady rfl rfl rfl; (intro w' hS; have q0 := Free.sx_cell hS m2 (fun j hp hT => Or.elim hT (fun h => hne1.out _ h.2 rfl) (fun h => by obtain ⟨rfl, _⟩ := h; exact absurd hp (by decide +kernel))); have q1 := Free.sx_cell hS s1 (fun j hp hT => Or.elim hT (fun h => hne2.out _ h.2 rfl) (fun h => hXg h.2)); have q2 := Free.sx_cell hS s2 (fun j hp hT => Or.elim hT (fun h => hne2.out _ h.2 rfl) (fun h => hXg h.2)); go_simp <;> exact rfl); go_frame) | (refine Free.cw_skip rfl ?_; go_frame)))
          refine Free.cw_loud rfl rfl (fun K hK => ?_)
          go_wp2
          refine hK _ _ rfl (Free.KeepsP.alloc _ _ _) ?_
          clear hK K
          (repeat (apply Free.cw_pure rfl rfl; (intro w'; go_simp <;> exact rfl); go_frame))
          refine Free.cw_loud rfl rfl (fun K hK => ?_)
          have hkE : Keeps [] wc ((wc.alloc (.cells #[.int .i64 a.ow, .int .u64 a.n, .int .i64 ov] tN)).drew) := ((Keeps.refl _ _).alloc _).drew
          have hmade := (Sh.O.one shT wc (a.ow, a.n, ov) #[.int .i64 a.ow, .int .u64 a.n, .int .i64 ov] tN 0 rfl (by omega)).keeps ((Keeps.refl [] _).drew)
          have hOE := hOn.out.keeps hkE
          have hXE := hBX.out.keeps hkE
          have hlE := hkE.size
          refine Sh.wp_app shT Z0 infoN rfl Tryz.underlying44 (.slice sa sn sc) (.slice (some ⟨wc.heap.size, 0, none⟩) 1 1) (P2[n].at 0) [(a.ow, a.n, ov)] _ _ rfl rfl rfl hOE hmade.r (by have := hll.out; simp only [List.length_cons, List.length_nil]; omega) (Nat.le_trans (show Z0 ≤ wc.heap.size by have h1 := hkc.out.size; have h2 := hZ0.out; omega) hlE) ?_
          intro v5 w5 hO5 hG5
          obtain ⟨a5, c5, rfl⟩ := hO5.form
          obtain ⟨N5, hN5⟩ : ∃ q, (P2[n].at 0 ++ [(a.ow, a.n, ov)]).length = q := ⟨_, rfl⟩
          rw [hN5] at hO5 hG5 ⊢
          refine hK _ _ rfl (Free.KeepsP.of hG5.keepsO (fun b hb => .inl ⟨rfl, by simpa using hb⟩)) ?_
          clear hK K
          have hX6 := hXE.app2 (k := n) (j := 0) (gb := gb) (by omega) (by have := hBX.out.len; omega) hgb.out (by omega) (v' := (a5, N5, c5)) (by rw [hv0]; exact hG5) hO5
          have hng5 : gb ∉ (Value.slice sa sn sc).ownBlock.toList := fun hm => hne1.out gb (by simpa using hm) rfl
          have hgl5 : gb < ((wc.alloc (.cells #[.int .i64 a.ow, .int .u64 a.n, .int .i64 ov] tN)).drew).heap.size := Nat.lt_of_lt_of_le ml hlE
          have m5 := (hG5.keepsO.cell gb 2 hgl5 hng5).trans (hkE.val m2)
          have f5 := (hG5.keepsO.frozen gb 2 hgl5 hng5).trans ((hkE.frozen gb 2 ml (by simp)).trans (mf _))
          have hkS : Keeps [gb] w5 (w5.setCell ⟨gb, 2 + 0, none⟩ (.slice a5 N5 c5)) := (Keeps.refl _ _).setCell (.inr (by simp)) _
          have hk6 : Keeps [bM] w3 (w5.setCell ⟨gb, 2 + 0, none⟩ (.slice a5 N5 c5)) := ((hkc.out.trans hkE.of_nil).fresh hG5.keepsO (fun b hb => .inr (by have h1 := hOE.ge b (by simpa using hb); have h2 := hZ0.out; omega))).fresh hkS (fun b hb => by simp at hb; subst hb; exact .inr (by have h2 := hZ0.out; omega))
          have hM6 := ((hMM.out.keeps ktZ hkE).kept ktZ hG5.keepsO (fun hm => by have := hOE.ge bM (by simpa using hm); omega)).kept ktZ hkS (by simp; omega)
          have hgl6 := lt_of_cell m5
          rw [← map_set_upd P2 (n := n) (by omega) 0 (P2[n].at 0 ++ [(a.ow, a.n, ov)])] at hM6
          have hneed : P2.set n (P2[n].upd 0 (P2[n].at 0 ++ [(a.ow, a.n, ov)])) = basC O (Y.take (k + 1)) := by
            rw [hst.out]
            unfold stepB
            rw [hP2.out]
            unfold needC
            rw [hget]
            exact (updL_at hn2 0 (fun l => l ++ [(a.ow, a.n, ov)])).symm
          rw [hneed] at hX6 hM6
          clear hneed
          replace hX6 := Lib.hid hX6
          replace hk6 := Lib.hid hk6
          replace hM6 := Lib.hid hM6
          replace hkS := Lib.hid hkS
          clear hO5 hG5 hmade hOE hXE hkE hlE hng5 hgl5 hbx
          (repeat (apply Free.cw_pure rfl rfl; (intro w'; go_simp <;> exact rfl); go_frame))
          refine Free.cw_loud rfl rfl (fun K hK => ?_)
          go_wp2
          refine hK _ _ rfl (Free.KeepsP.of hkS.out (fun b hb => .inr ⟨trivial, by simpa using hb⟩)) ?_
          clear hK K
          refine Free.cw_nil ?_
          go_wp2
          go_roundw
          case rel => exact ⟨k + 1, bs2, _, rfl, by omega, hM6, hX6, hk6⟩
          case measure => simp [intOf]; omega
        | false =>
          have hget : MapS.get (a.ow, a.m, a.n) O = none := by
            rw [hgo.out]; simpa using hob.out
          replace hll := Lib.hid (hll 2 (by omega))
          obtain ⟨⟨sa, sn, sc⟩, hv0⟩ : ∃ x, V2 n 2 = x := ⟨_, rfl⟩
          have hOn := hBX.out.o n 2 (by omega) (by omega)
          rw [hv0] at hOn
          simp only [slv] at hOn
          have hbx := (hBX.out.b n (by omega) (by have := hBX.out.len; omega)).2
          rw [hgb.out] at hbx
          simp only [bxC] at hbx
          obtain ⟨m0, m1, m2, m3, m4, mf, ml⟩ := cl5 hbx
          rw [hv0] at m4
          simp only [slv] at m4
          have hgZ : Z0 ≤ gb := by
            have := (hBX.out.b n (by omega) (by have := hBX.out.len; omega)).1
            rw [hgb.out] at this
            exact this
          have hne1 : ∀ b, (Value.slice sa sn sc).ownBlock = some b → b ≠ gb := fun b e e2 => by
            subst e2
            obtain ⟨cs, hc⟩ := hOn.tag _ e
            exact tag_ne hc hbx (by decide) rfl
          have hne2 : ∀ b, (Value.slice sa sn sc).ownBlock = some b → b ≠ XA := fun b e e2 => by
            subst e2
            obtain ⟨cs, hc⟩ := hOn.tag _ e
            exact tag_ne hc hbA.out (by decide) rfl
          replace hne2 := Lib.hid hne2
          have hXg : XA ≠ gb := fun e => by
            subst e
            exact tag_ne hbA.out hbx (by decide) rfl
          replace hne1 := Lib.hid hne1
          replace hOn := Lib.hid hOn

          go_wp2
          refine Free.wp_region_chain (fun i => i == 10 || i == 11 || i == 14) (fun i => true) (fun j b => (j = 11 ∧ (Value.slice sa sn sc).ownBlock = some b) ∨ (j = 14 ∧ b = gb)) (by kernel_rfl) (by kernel_rfl) (by kernel_rfl) ?_
          (repeat (first | (apply Free.cw_pure rfl rfl; (intro w'; go_simp <;> exact rfl); go_frame) | (apply Free.cw_steady rfl rfl rfl; (intro w' hS; have q0 := Free.sx_cell hS m4 (fun j hp hT => Or.elim hT (fun h => hne1.out _ h.2 rfl) (fun h => by obtain ⟨rfl, _⟩ := h; exact absurd hp (by decide +kernel))); have q1 := Free.sx_cell hS s1 (fun j hp hT => Or.elim hT (fun h => hne2.out _ h.2 rfl) (fun h => hXg h.2)); have q2 := Free.sx_cell hS s2 (fun j hp hT => Or.elim hT (fun h => hne2.out _ h.2 rfl) (fun h => hXg h.2)); go_simp <;> exact rfl); go_frame) | (refine Free.cw_skip rfl ?_; go_frame)))
          refine Free.cw_loud rfl rfl (fun K hK => ?_)
          go_wp2
          refine hK _ _ rfl (Free.KeepsP.alloc _ _ _) ?_
          clear hK K
          (repeat (apply Free.cw_pure rfl rfl; (intro w'; go_simp <;> exact rfl); go_frame))
          refine Free.cw_loud rfl rfl (fun K hK => ?_)
          have hkE : Keeps [] wc ((wc.alloc (.cells #[.int .i64 a.ow, .int .u64 a.n, .int .i64 0] tN)).drew) := ((Keeps.refl _ _).alloc _).drew
          have hmade := (Sh.O.one shT wc (a.ow, a.n, 0) #[.int .i64 a.ow, .int .u64 a.n, .int .i64 0] tN 0 rfl (by omega)).keeps ((Keeps.refl [] _).drew)
          have hOE := hOn.out.keeps hkE
          have hXE := hBX.out.keeps hkE
          have hlE := hkE.size
          refine Sh.wp_app shT Z0 infoN rfl Tryz.underlying44 (.slice sa sn sc) (.slice (some ⟨wc.heap.size, 0, none⟩) 1 1) (P2[n].at 2) [(a.ow, a.n, 0)] _ _ rfl rfl rfl hOE hmade.r (by have := hll.out; simp only [List.length_cons, List.length_nil]; omega) (Nat.le_trans (show Z0 ≤ wc.heap.size by have h1 := hkc.out.size; have h2 := hZ0.out; omega) hlE) ?_
          intro v5 w5 hO5 hG5
          obtain ⟨a5, c5, rfl⟩ := hO5.form
          obtain ⟨N5, hN5⟩ : ∃ q, (P2[n].at 2 ++ [(a.ow, a.n, 0)]).length = q := ⟨_, rfl⟩
          rw [hN5] at hO5 hG5 ⊢
          refine hK _ _ rfl (Free.KeepsP.of hG5.keepsO (fun b hb => .inl ⟨rfl, by simpa using hb⟩)) ?_
          clear hK K
          have hX6 := hXE.app2 (k := n) (j := 2) (gb := gb) (by omega) (by have := hBX.out.len; omega) hgb.out (by omega) (v' := (a5, N5, c5)) (by rw [hv0]; exact hG5) hO5
          have hng5 : gb ∉ (Value.slice sa sn sc).ownBlock.toList := fun hm => hne1.out gb (by simpa using hm) rfl
          have hgl5 : gb < ((wc.alloc (.cells #[.int .i64 a.ow, .int .u64 a.n, .int .i64 0] tN)).drew).heap.size := Nat.lt_of_lt_of_le ml hlE
          have m5 := (hG5.keepsO.cell gb 4 hgl5 hng5).trans (hkE.val m4)
          have f5 := (hG5.keepsO.frozen gb 4 hgl5 hng5).trans ((hkE.frozen gb 4 ml (by simp)).trans (mf _))
          have hkS : Keeps [gb] w5 (w5.setCell ⟨gb, 2 + 2, none⟩ (.slice a5 N5 c5)) := (Keeps.refl _ _).setCell (.inr (by simp)) _
          have hk6 : Keeps [bM] w3 (w5.setCell ⟨gb, 2 + 2, none⟩ (.slice a5 N5 c5)) := ((hkc.out.trans hkE.of_nil).fresh hG5.keepsO (fun b hb => .inr (by have h1 := hOE.ge b (by simpa using hb); have h2 := hZ0.out; omega))).fresh hkS (fun b hb => by simp at hb; subst hb; exact .inr (by have h2 := hZ0.out; omega))
          have hM6 := ((hMM.out.keeps ktZ hkE).kept ktZ hG5.keepsO (fun hm => by have := hOE.ge bM (by simpa using hm); omega)).kept ktZ hkS (by simp; omega)
          have hgl6 := lt_of_cell m5
          rw [← map_set_upd P2 (n := n) (by omega) 2 (P2[n].at 2 ++ [(a.ow, a.n, 0)])] at hM6
          have hneed : P2.set n (P2[n].upd 2 (P2[n].at 2 ++ [(a.ow, a.n, 0)])) = basC O (Y.take (k + 1)) := by
            rw [hst.out]
            unfold stepB
            rw [hP2.out]
            unfold needC
            rw [hget]
            exact (updL_at hn2 2 (fun l => l ++ [(a.ow, a.n, 0)])).symm
          rw [hneed] at hX6 hM6
          clear hneed
          replace hX6 := Lib.hid hX6
          replace hk6 := Lib.hid hk6
          replace hM6 := Lib.hid hM6
          replace hkS := Lib.hid hkS
          clear hO5 hG5 hmade hOE hXE hkE hlE hng5 hgl5 hbx
          (repeat (apply Free.cw_pure rfl rfl; (intro w'; go_simp <;> exact rfl); go_frame))
          refine Free.cw_loud rfl rfl (fun K hK => ?_)
          go_wp2
          refine hK _ _ rfl (Free.KeepsP.of hkS.out (fun b hb => .inr ⟨trivial, by simpa using hb⟩)) ?_
          clear hK K
          refine Free.cw_nil ?_
          go_wp2
          go_roundw
          case rel => exact ⟨k + 1, bs2, _, rfl, by omega, hM6, hX6, hk6⟩
          case measure => simp [intOf]; omega
    · have hlt2 : ¬ ((k : Int) < x6) := by omega
      have hkN : k = Y.length := by have := hfY.out; omega
      have htk : Y.take k = Y := by rw [hkN]; exact List.take_length
      rw [htk] at hMr hXr
      obtain ⟨P1, hP1⟩ : ∃ P, basC O Y = P := ⟨_, rfl⟩
      have hms1 := basC_ms (O := O) hs.out
      have hP1e := basC_eq (O := O) hs.out
      rw [hP1] at hMr hXr hms1 hP1e
      obtain ⟨ms, hmse⟩ : ∃ m, P1.map PCl.m = m := ⟨_, rfl⟩
      rw [hmse] at hMr hms1
      have hmsl := ms_srt hs.out
      rw [← hms1] at hmsl
      have hnd1 : (P1.map PCl.m).Nodup := by rw [hmse]; exact lt_nodup hmsl.1
      have hml : ms.length ≤ 1000 := by
        have := msL_len Y
        rw [← hms1] at this
        have := hfY.out
        omega
      have hP1l : P1.length = ms.length := by rw [← hmse]; simp
      have hMKr := hMK.out.kept ktK hkr.out (by simp; omega)
      have hMSr := hMS.out.kept ktS hkr.out (by simp; omega)
      have hOl : O.length ≤ 1000000 := by
        rw [← hO.out]
        have h1 : ∀ (Z : List Ans) (acc : List (Qn × Int)), (∀ a ∈ Z, a.ins.length ≤ 1000) → (Z.foldl outsA acc).length ≤ acc.length + Z.length * 1000 := fun Z => by
          induction Z with
          | nil => intro acc _; simp
          | cons a Z ih =>
            intro acc h
            have h2 := ih (outsA acc a) (fun b hb => h b (by simp [hb]))
            have h3 := out_fold_len a.m a.ins acc
            have h4 := h a (by simp)
            have h5 : (outsA acc a).length ≤ acc.length + 1000 := by unfold outsA; omega
            rw [List.foldl_cons, List.length_cons, Nat.add_mul]
            omega
        have h2 := h1 Y [] hfi.out
        have h3 := hfY.out
        have h4 : Y.length * 1000 ≤ 1000 * 1000 := Nat.mul_le_mul_right _ (by omega)
        unfold outsOf
        simp only [List.length_nil] at h2
        omega
      replace hkN := Lib.hid hkN
      replace htk := Lib.hid htk
      replace hP1 := Lib.hid hP1
      replace hP1e := Lib.hid hP1e
      replace hms1 := Lib.hid hms1
      replace hmse := Lib.hid hmse
      replace hmsl := Lib.hid hmsl
      replace hnd1 := Lib.hid hnd1
      replace hMSr := Lib.hid hMSr
      replace hP1l := Lib.hid hP1l
      go_wp2_with (at_range; refine MapS.wpl_range ktK rfl _ rfl Tryz.underlying52 rfl hMKr ?_; intro w4 hrg4 hg4 hs4)
      have hk4 : Keeps [] wr w4 := (Keeps.refl [] wr).grown hg4 (by simp)
      have hM4 := hMr.out.keeps ktZ hk4
      have hX4 := hXr.out.keeps hk4
      have hMS4 := hMSr.out.keeps ktS hk4
      have hk34 := hkr.out.trans hk4.of_nil
      obtain ⟨rI, hrI⟩ : ∃ r, wr.heap.size = r := ⟨_, rfl⟩
      have hrZ : Z0 ≤ rI := by have h1 := hkr.out.size; have h2 := hZ0.out; omega
      have hrI4 : rI < w4.heap.size := by omega
      rw [hrI] at hrg4 ⊢
      have hbS0 : bS < rI := by omega
      replace hrg4 := Lib.hid hrg4
      replace hM4 := Lib.hid hM4
      replace hX4 := Lib.hid hX4
      replace hk34 := Lib.hid hk34
      replace hrI := Lib.hid hrI
      clear hMKr hg4 hk4 hMr hXr hMSr hs4 hkr

      (first | go_frame | skip)
      go_loopg [12] O.length (fun n lv wr => ∃ (rs Dn : List (Qn × Int)) (P : List PCl) (V : Nat → Nat → SlT), n = rs.length ∧ Hid (MapS.Rg ktK zV wr bK rI O rs) ∧ Hid ((Dn ++ rs).Perm O) ∧ Hid (MidC P P1 Y Dn) ∧ Hid (MapS.M ktZ pV wr bM (ms.zip bs)) ∧ Hid (BX wr Z0 bs P V) ∧ Hid (MapS.M ktS aV wr bS R) ∧ Hid (Keeps [bM] w3 wr))
      case atStart =>
        refine ⟨O, [], P1, V, rfl, hrg4, by simp [Hid], Lib.hid ⟨rfl, fun i h1 h2 => ⟨rfl, rfl, rfl, rfl, ?_⟩⟩, hM4, hX4, Lib.hid hMS4, hk34⟩
        have := (basC_small hs.out (p := P1[i]) (by rw [hP1.out]; exact List.getElem_mem _)).2.1
        rw [this]
        rfl
      case round =>
        clear hM4 hX4 hMS4 hk34 hrg4 hrI4
        obtain ⟨rs, Dn, P, V, rfl, hrg, hpm, hmid, hMr, hXr, hMSr, hkr⟩ := hrel
        go_wp2_with (at_next; refine MapS.wpl_next ktK rfl _ rfl rfl hrg.out ?_ ?_)
        case _ =>
          intro hrs
          subst hrs
          have hpO : Dn.Perm O := by have := hpm.out; simpa using this
          have hmsP : P.map PCl.m = ms := by rw [hmid.out.ms, hmse.out]
          have hPl : P.length = ms.length := by rw [← hmsP]; simp
          have hbl := hXr.out.len
          have hzf : (ms.zip bs).map (·.1) = ms := List.map_fst_zip (by omega)
          have hkwr : Keeps [] w wr := hk03.out.fresh hkr.out (fun b hb => by simp at hb; subst hb; exact .inr hwM)
          have hMrl : bM < wr.heap.size := MapS.M.lt ktZ hMr.out
          replace hpO := Lib.hid hpO
          replace hmsP := Lib.hid hmsP
          replace hPl := Lib.hid hPl
          replace hzf := Lib.hid hzf
          replace hkwr := Lib.hid hkwr
          replace hbl := Lib.hid hbl
          clear hrg hpm hMSr hkr
          go_wp2_with fail
          refine (keysC_c (some bM) _).mono ?_
          rintro e w6 ⟨rfl, hw6⟩
          have hk6 : Keeps [] wr w6 := by rw [hw6]; exact (Keeps.refl _ _).alloc _
          have hbx6 : w6.heap[wr.heap.size]? = some (.cells #[.map (some bM)] 99 (0, 0)) := by rw [hw6]; exact heap_alloc_new wr _
          have hcel : w6.cell? ⟨wr.heap.size, 0, none⟩ = some (.map (some bM)) := by simp [World.cell?, hbx6]
          have hM6 := hMr.out.keeps ktZ hk6
          have hX6 := hXr.out.keeps hk6
          have hsrt := sortedC_c w6 wr.heap.size bM (ms.zip bs) hM6 (by rw [hzf.out]; exact hmsl.out.1) hcel (lt_of_blk hbx6) (by rw [List.length_zip]; omega)
          rw [hzf.out] at hsrt
          have hk06 := hkwr.out.trans hk6
          replace hsrt := Lib.hid hsrt
          replace hM6 := Lib.hid hM6
          replace hX6 := Lib.hid hX6
          replace hk06 := Lib.hid hk06
          replace hw6 := Lib.hid hw6
          clear hMr hXr hkwr hk6 hbx6 hcel
          go_wp2_with fail
          refine hsrt.out.mono ?_
          rintro e w7 ⟨vS, rfl, hS, hk7⟩
          obtain ⟨aS, cS, rfl⟩ := hS.form
          obtain ⟨NM, hNM⟩ : ∃ N, ms.length = N := ⟨_, rfl⟩
          rw [hNM] at hS hPl ⊢
          obtain ⟨Zo, hZo⟩ : ∃ z, w7.heap.size = z := ⟨_, rfl⟩
          obtain ⟨Zs, hZs⟩ : ∃ z, w6.heap.size = z := ⟨_, rfl⟩
          rw [hZs] at hS
          have hX7 := hX6.out.keeps hk7
          have hL0 : L3 w w7 Z0 Zo Zs bM bs P V (.slice none 0 0) ((rowsC P V).take 0) ms (.slice aS NM cS) := ⟨hX7, by rw [List.take_zero]; exact Sh.O.nil _ _ _ _, hM6.out.keeps ktZ hk7, hS, hk06.out.trans hk7, by omega⟩
          have hb1 : ∀ k (hk : k < bs.length), bs[k] < Zo := fun k hk => by have := hX7.lt hk; omega
          have hb2 : ∀ k j b, k < P.length → j < 3 → (slv (V k j)).ownBlock = some b → b < Zo := fun k j b h1 h2 h3 => by have := (hX7.o k j h1 h2).lt b h3; omega
          have hbMo : bM < Zo := by have := MapS.M.lt ktZ hL0.mp; omega
          have hwZo : w.heap.size ≤ Zo := by have := hL0.kp.size; omega
          have hk07 := Lib.hid (hk06.out.trans hk7)
          have hNMl : NM ≤ 1000 := by omega
          have hlen2 : ∀ k (hk : k < P.length) j, j < 3 → (P[k].at j).length ≤ 1000000 := fun k hk j hj => by
            have hk1 : k < P1.length := by rw [← hmid.out.len]; exact hk
            obtain ⟨_, _, g3, g4, g5⟩ := hmid.out.at' k hk hk1
            have hb := basC_small hs.out (p := P1[k]) (by rw [hP1.out]; exact List.getElem_mem _)
            have hx := hfY.out
            match j, hj with
            | 0, _ => show P[k].st.length ≤ _; rw [g3]; omega
            | 1, _ =>
              show P[k].sc.length ≤ _
              rw [g5]
              unfold scD
              have h1 := List.length_filterMap_le (scE Y P1[k].m) Dn
              have h2 := hpO.out.length_eq
              omega
            | 2, _ => show P[k].ch.length ≤ _; rw [g4]; omega
          replace hlen2 := Lib.hid hlen2
          replace hL0 := Lib.hid hL0
          replace hb1 := Lib.hid hb1
          replace hb2 := Lib.hid hb2
          replace hZo := Lib.hid hZo
          replace hZs := Lib.hid hZs
          replace hNM := Lib.hid hNM
          clear hS hk7 hX7 hX6 hM6 hk06 hsrt
          go_wp2
          go_loopw [131, 13] (fun i ov wr => ∃ (q : Nat) (Q : List PCl), i = .int .i64 q ∧ q ≤ NM ∧ Hid (L3 w wr Z0 Zo Zs bM bs Q V ov ((rowsC P V).take q) ms (.slice aS NM cS)) ∧ Hid (SrtC Q P (fun a _ => a < q))) (fun i _ _ => NM - (intOf i).toNat)
          case atStart => exact ⟨0, P, rfl, by omega, hL0, Lib.hid (SrtC.start P)⟩
          case round =>
            clear hL0
            obtain ⟨q, Q, rfl, hq, hL, hsq⟩ := hrel
            by_cases hltq : q < NM
            · have hltq2 : (q : Int) < NM := by omega
              have hqm : q < ms.length := by rw [hNM.out]; exact hltq
              have hqP : q < P.length := by rw [hPl.out]; exact hltq
              have hqQ : q < Q.length := by rw [hsq.out.len]; exact hqP
              have hqb : q < bs.length := by rw [hL.out.bx.len]; exact hqQ
              obtain ⟨gS, oS, cS', hvS, heS⟩ := hL.out.srt.r.elem hqm
              rw [hNM.out] at hvS
              cases hvS
              have hcS := heS 0 _ rfl
              simp only [shZ, Nat.mul_one, Nat.add_zero] at hcS
              have hgz := get_zip (ms := ms) (bs := bs) (by have := hL.out.bx.len; have := hsq.out.len; have := hPl.out; have := hNM.out; omega) (lt_nodup hmsl.out.1) q hqm hqb
              have hwq : W64 ms[q] := by
                have := hL.out.mp.ok (ms[q], bs[q]) (MapS.get_mem hgz)
                exact this
              obtain ⟨m, hm⟩ : ∃ m, ms[q] = m := ⟨_, rfl⟩
              rw [hm] at hcS hgz hwq
              obtain ⟨gb, hgb⟩ : ∃ g, bs[q] = g := ⟨_, rfl⟩
              rw [hgb] at hgz
              have hlz := MapS.M.look ktZ Tryz.underlying99 (.pointer none) zeroP hL.out.mp hwq
              rw [hgz] at hlz
              simp only [ktZ, zV, Option.map_some, Option.getD_some, pV] at hlz
              have hbx := (hL.out.bx.b q hqQ hqb).2
              rw [hgb] at hbx
              obtain ⟨hm0, hm1⟩ := hsq.out.me q hqQ hqP
              simp only [bxC] at hbx
              rw [hm0, hm1] at hbx
              obtain ⟨pm, hpm⟩ : ∃ x, P[q].m = x := ⟨_, rfl⟩
              obtain ⟨pe, hpe⟩ : ∃ x, P[q].ep = x := ⟨_, rfl⟩
              rw [hpm, hpe] at hbx
              have hrow := rowsC_take P V q hqP
              rw [hpm, hpe] at hrow
              obtain ⟨⟨a0, n0, c0⟩, hV0⟩ : ∃ x, V q 0 = x := ⟨_, rfl⟩
              obtain ⟨⟨a1, n1, c1⟩, hV1⟩ : ∃ x, V q 1 = x := ⟨_, rfl⟩
              obtain ⟨⟨a2, n2, c2⟩, hV2⟩ : ∃ x, V q 2 = x := ⟨_, rfl⟩
              rw [hV0, hV1, hV2] at hbx hrow
              simp only [slv] at hbx
              have hk1 : Keeps [] wr (wr.alloc (.cells #[.slice a0 n0 c0, .slice a1 n1 c1, .slice a2 n2 c2] 44)).drew := ((Keeps.refl [] wr).alloc _).drew
              have hXL : (wr.alloc (.cells #[.slice a0 n0 c0, .slice a1 n1 c1, .slice a2 n2 c2] 44)).drew.heap[wr.heap.size]? = _ := heap_alloc_new wr (.cells #[.slice a0 n0 c0, .slice a1 n1 c1, .slice a2 n2 c2] 44)
              have hLn := hL.out.keeps hk1
              have hbxd : wr.drew.heap[gb]? = _ := hbx
              obtain ⟨m0, m1, m2, m3, m4, mf, ml⟩ := cl5 hbxd
              obtain ⟨oa, oc, rfl⟩ := hL.out.out.form
              have hlq : ((rowsC P V).take q).length = q := by rw [List.length_take, rowsC_len]; omega
              rw [hlq] at hL hLn ⊢
              replace hLn := Lib.hid hLn
              replace hXL := Lib.hid hXL
              replace hbx := Lib.hid hbx
              replace hrow := Lib.hid hrow
              replace hpm := Lib.hid hpm
              replace hpe := Lib.hid hpe
              replace hm0 := Lib.hid hm0
              replace hm1 := Lib.hid hm1
              replace hlq := Lib.hid hlq
              replace hV0 := Lib.hid hV0
              replace hV1 := Lib.hid hV1
              replace hV2 := Lib.hid hV2
              replace hgb := Lib.hid hgb
              replace hm := Lib.hid hm
              clear hk1 heS hgz hbxd
              have hlqP := hlen2.out q hqP
              go_upto_region 25 with fail
              refine Free.wp_region_chain (fun i => i == 12) (fun i => true) (fun _ _ => False) (by kernel_rfl) (by kernel_rfl) (by kernel_rfl) ?_
              (repeat (first | (apply Free.cw_pure rfl rfl; (intro w'; go_simp <;> exact rfl); go_frame) | (apply Free.cw_steady rfl rfl rfl; (intro w' hS; have q0 := Free.sx_cell hS m2 (fun _ _ hT => hT); have q1 := Free.sx_cell hS m3 (fun _ _ hT => hT); have q2 := Free.sx_cell hS m4 (fun _ _ hT => hT); go_simp <;> exact rfl); go_frame) | (refine Free.cw_skip rfl ?_; go_frame)))
              refine Free.cw_loud rfl rfl (fun K hK => ?_)
              go_wp2
              refine hK _ _ rfl (Free.KeepsP.alloc _ _ _) ?_
              clear hK K
              (repeat (apply Free.cw_pure rfl rfl; (intro w'; go_simp <;> exact rfl); go_frame))
              refine Free.cw_nil ?_
              generalize ((wr.alloc (.cells #[.slice a0 n0 c0, .slice a1 n1 c1, .slice a2 n2 c2] 44)).drew) = w8 at *
              obtain ⟨XL, hXLe⟩ : ∃ X, wr.heap.size = X := ⟨_, rfl⟩
              rw [hXLe] at hXL ⊢
              replace hXLe := Lib.hid hXLe
              clear m0 m1 m2 m3 m4 mf ml hlz hcS hL
              go_wp2
              go_loopw [152] (fun i wl => ∃ (z : Nat) (Q : List PCl), i = .int .i64 z ∧ z ≤ 3 ∧ Hid (L3 w wl Z0 Zo Zs bM bs Q V (.slice oa q oc) ((rowsC P V).take q) ms (.slice (some ⟨gS, oS, none⟩) NM cS)) ∧ Hid (SrtC Q P (fun a j => a < q ∨ (a = q ∧ j < z))) ∧ Hid (wl.heap[XL]? = some (.cells #[.slice a0 n0 c0, .slice a1 n1 c1, .slice a2 n2 c2] 44 (0, 0)))) (fun i _ => 3 - (intOf i).toNat)
              case atStart => exact ⟨0, Q, rfl, by omega, hLn, Lib.hid (hsq.out.weak (fun i j _ h => by omega)), hXL⟩
              case round =>
                clear hLn hXL hsq hqQ hm0 hm1
                obtain ⟨z, QQ, rfl, hz, hLz, hsz, hXz⟩ := hrel
                have hqQ : q < QQ.length := by rw [hsz.out.len]; exact hqP
                obtain ⟨z0, z1, z2, zf, zl⟩ := cl3 hXz.out
                by_cases hz3 : z < 3
                · have hz32 : (z : Int) < 3 := by omega
                  have hcase : z = 0 ∨ z = 1 ∨ z = 2 := by omega
                  rcases hcase with rfl | rfl | rfl
                  · have hOz := hLz.out.bx.o q 0 hqQ (by omega)
                    rw [hV0.out] at hOz
                    simp only [slv] at hOz
                    have hst := sortN_c wr Z0 _ _ hOz (by have h1 := (hsz.out.ls q hqQ hqP 0 (by omega)).length_eq; have h2 := hlqP 0 (by omega); omega)
                    have htg := hOz.tag
                    replace hst := Lib.hid hst
                    replace hOz := Lib.hid hOz
                    go_wp2_with fail
                    refine hst.out.mono ?_
                    rintro e w9 ⟨rfl, L', hp, hpw, hO9, hK9⟩
                    have hL9 := hLz.out.turn hwZ (by omega) hqQ (j := 0) (by omega) (by rw [hV0.out]; exact hK9) (by rw [hV0.out]; exact hO9)
                    have hS9 := hsz.out.turn hqQ (k := 0) (by omega) hp hpw
                    have hX9 := (hK9.block _ zl (fun hm => by obtain ⟨cs, hc⟩ := htg _ (by simpa using hm); exact tag_ne hXz.out hc (by decide) rfl)).trans hXz.out
                    replace hL9 := Lib.hid hL9
                    replace hS9 := Lib.hid hS9
                    replace hX9 := Lib.hid hX9
                    clear hp hpw hO9 hK9 hst hOz htg
                    go_wp2
                    go_roundw
                    case rel => exact ⟨0 + 1, _, rfl, by omega, hL9, hS9, hX9⟩
                    case measure => simp [intOf]
                  · have hOz := hLz.out.bx.o q 1 hqQ (by omega)
                    rw [hV1.out] at hOz
                    simp only [slv] at hOz
                    have hst := sortN_c wr Z0 _ _ hOz (by have h1 := (hsz.out.ls q hqQ hqP 1 (by omega)).length_eq; have h2 := hlqP 1 (by omega); omega)
                    have htg := hOz.tag
                    replace hst := Lib.hid hst
                    replace hOz := Lib.hid hOz
                    go_wp2_with fail
                    refine hst.out.mono ?_
                    rintro e w9 ⟨rfl, L', hp, hpw, hO9, hK9⟩
                    have hL9 := hLz.out.turn hwZ (by omega) hqQ (j := 1) (by omega) (by rw [hV1.out]; exact hK9) (by rw [hV1.out]; exact hO9)
                    have hS9 := hsz.out.turn hqQ (k := 1) (by omega) hp hpw
                    have hX9 := (hK9.block _ zl (fun hm => by obtain ⟨cs, hc⟩ := htg _ (by simpa using hm); exact tag_ne hXz.out hc (by decide) rfl)).trans hXz.out
                    replace hL9 := Lib.hid hL9
                    replace hS9 := Lib.hid hS9
                    replace hX9 := Lib.hid hX9
                    clear hp hpw hO9 hK9 hst hOz htg
                    go_wp2
                    go_roundw
                    case rel => exact ⟨1 + 1, _, rfl, by omega, hL9, hS9, hX9⟩
                    case measure => simp [intOf]
                  · have hOz := hLz.out.bx.o q 2 hqQ (by omega)
                    rw [hV2.out] at hOz
                    simp only [slv] at hOz
                    have hst := sortN_c wr Z0 _ _ hOz (by have h1 := (hsz.out.ls q hqQ hqP 2 (by omega)).length_eq; have h2 := hlqP 2 (by omega); omega)
                    have htg := hOz.tag
                    replace hst := Lib.hid hst
                    replace hOz := Lib.hid hOz
                    go_wp2_with fail
                    refine hst.out.mono ?_
                    rintro e w9 ⟨rfl, L', hp, hpw, hO9, hK9⟩
                    have hL9 := hLz.out.turn hwZ (by omega) hqQ (j := 2) (by omega) (by rw [hV2.out]; exact hK9) (by rw [hV2.out]; exact hO9)
                    have hS9 := hsz.out.turn hqQ (k := 2) (by omega) hp hpw
                    have hX9 := (hK9.block _ zl (fun hm => by obtain ⟨cs, hc⟩ := htg _ (by simpa using hm); exact tag_ne hXz.out hc (by decide) rfl)).trans hXz.out
                    replace hL9 := Lib.hid hL9
                    replace hS9 := Lib.hid hS9
                    replace hX9 := Lib.hid hX9
                    clear hp hpw hO9 hK9 hst hOz htg
                    go_wp2
                    go_roundw
                    case rel => exact ⟨2 + 1, _, rfl, by omega, hL9, hS9, hX9⟩
                    case measure => simp [intOf]
                · have hz32 : ¬ ((z : Int) < 3) := by omega
                  have hze : z = 3 := by omega
                  subst hze
                  have hbx2 := (hLz.out.bx.b q hqQ hqb).2
                  rw [hgb.out] at hbx2
                  obtain ⟨hm0, hm1⟩ := hsz.out.me q hqQ hqP
                  simp only [bxC] at hbx2
                  rw [hm0, hm1, hpm.out, hpe.out, hV0.out, hV1.out, hV2.out] at hbx2
                  simp only [slv] at hbx2
                  obtain ⟨m0, m1, m2, m3, m4, mf, ml⟩ := cl5 hbx2
                  have hkA := (Keeps.refl [] wr).alloc (.cells #[.int .i64 pm, .int .i64 pe, .slice a0 n0 c0, .slice a1 n1 c1, .slice a2 n2 c2] tC)
                  have hmade := Sh.O.one shC wr (⟨pm, pe, (a0, n0, c0), (a1, n1, c1), (a2, n2, c2)⟩ : ClV) #[.int .i64 pm, .int .i64 pe, .slice a0 n0 c0, .slice a1 n1 c1, .slice a2 n2 c2] tC 0 rfl (by omega)
                  have hLk := hLz.out.keeps hkA
                  have hsf := hsz.out.weak (e := fun a _ => a < q + 1) (fun i j hj h => by omega)
                  have hb2Q : ∀ k j b, k < QQ.length → j < 3 → (slv (V k j)).ownBlock = some b → b < Zo := fun k j b h1 h2 h3 => hb2.out k j b (by rw [← hsz.out.len]; exact h1) h2 h3
                  have hZl : Zo ≤ (wr.alloc (.cells #[.int .i64 pm, .int .i64 pe, .slice a0 n0 c0, .slice a1 n1 c1, .slice a2 n2 c2] tC)).heap.size := by
                    have h1 := hLz.out.zo
                    have h2 := hkA.size
                    omega
                  replace hmade := Lib.hid hmade
                  replace hLk := Lib.hid hLk
                  replace hsf := Lib.hid hsf
                  replace hb2Q := Lib.hid hb2Q
                  replace hm0 := Lib.hid hm0
                  replace hm1 := Lib.hid hm1
                  clear hkA
                  go_wp2_with (at_builtin; go_loud (refine Sh.wpl_app shC Zo infoC rfl Tryz.underlying28 (.slice oa q oc) (.slice (some ⟨wr.heap.size, 0, none⟩) 1 1) ((rowsC P V).take q) [(⟨pm, pe, (a0, n0, c0), (a1, n1, c1), (a2, n2, c2)⟩ : ClV)] rfl _ _ rfl rfl rfl hLk.out.out hmade.out.r (by rw [hlq.out]; simp; omega) hZl ?_; intro v9 w9 hO9 hG9; have hL9 := hLk.out.app hwZo hbMo hb1.out hb2Q.out hG9 hO9; rw [← hrow.out] at hL9; replace hL9 := Lib.hid hL9; clear hG9 hO9))
                  go_wp2
                  go_roundw
                  case rel => exact ⟨q + 1, QQ, rfl, by omega, hL9, hsf⟩
                  case measure => simp [intOf]; omega
            · have hltq2 : ¬ ((q : Int) < NM) := by omega
              have hqN : q = P.length := by have := hPl.out; omega
              have hrows : (rowsC P V).take q = rowsC P V := by rw [hqN]; exact List.take_of_length_le (by rw [rowsC_len]; omega)
              have hLf := hL.out
              rw [hrows] at hLf
              have hsf := hsq.out
              rw [hqN] at hsf
              have hfin := claims_fin hs.out (by rw [hO.out]; exact hP1e.out) hmid.out (by rw [hO.out]; exact hpO.out) hsf hLf.bx hLf.out
              have hkf := hLf.kp
              replace hfin := Lib.hid hfin
              replace hkf := Lib.hid hkf
              replace hqN := Lib.hid hqN
              replace hrows := Lib.hid hrows
              clear hLf hsf
              go_wp2
              go_ret
              exact ⟨_, rfl, hfin.out, hkf.out⟩
        case _ =>
          intro q0 q1 q2 u R' w5 hok hgu hum hperm hrg2 hg2 hs2 hen
          have hk5r : Keeps [rI] wr w5 := Keeps.of_grown hg2
          have hIt0 : ∃ a s nn c, w5.heap[rI]? = some (Obj.mapIter a s nn c) := by
            obtain ⟨⟨nn, D, left, cnt, ⟨es, clock, since, seen, c0, e1, F, hs, hD, e2, rest⟩, hR⟩, _⟩ := hrg2
            exact ⟨_, _, _, _, e2⟩
          have hItr : ∃ a s nn c, wr.heap[rI]? = some (Obj.mapIter a s nn c) := by
            obtain ⟨⟨nn, D, left, cnt, ⟨es, clock, since, seen, c0, e1, F, hs, hD, e2, rest⟩, hR⟩, _⟩ := hrg.out
            exact ⟨_, _, _, _, e2⟩
          have hX5 := hXr.out.keepT hk5r (fun b hb cs => by
            simp at hb
            subst hb
            obtain ⟨a1, a2, a3, a4, e⟩ := hItr
            rw [e]
            exact ⟨nofun, nofun⟩)
          have hM5' := hMr.out.kept ktZ hk5r (by simp; omega)
          have hMS5 := hMSr.out.kept ktS hk5r (by simp; omega)
          have hk35 : Keeps [bM] w3 w5 := hkr.out.fresh hk5r (fun b hb => by simp at hb; subst hb; exact .inr (by have := hZ0.out; omega))
          have hpm2 : ((Dn ++ [((q0, q1, q2), u)]) ++ R').Perm O := by
            rw [List.append_assoc]
            exact ((List.Perm.refl Dn).append hperm.symm).trans hpm.out
          have hrl2 : R'.length < rs.length := by have := hperm.length_eq; simp at this; omega
          have hDl : Dn.length ≤ 1000000 := by have := hpm.out.length_eq; simp at this; omega
          have hmem : q0 ∈ ms := (hmsl.out.2 q0).2 (by
            obtain ⟨a, ha, y, hy, e⟩ := (outsOf_some Y (q0, q1, q2)).1 (by rw [hO.out, hgu]; rfl)
            simp only [Prod.mk.injEq] at e
            exact ⟨a, ha, e.1.symm⟩)
          obtain ⟨n, hnm, hq0⟩ := List.getElem_of_mem hmem
          have hlen := hmid.out.len
          have hlenb := hXr.out.len
          have hnl : n < P.length := by have := hP1l.out; omega
          have hnb : n < bs.length := by omega
          have hmsP : P.map PCl.m = ms := by rw [hmid.out.ms, hmse.out]
          have hPm : P[n].m = q0 := by
            have e : (P.map PCl.m)[n]'(by simp; exact hnl) = ms[n] := by simp only [hmsP]
            rw [List.getElem_map] at e
            rw [e, hq0]
          have hgz0 := get_zip (ms := ms) (bs := bs) (by have := hP1l.out; omega) (by have := hnd1.out; rw [hmse.out] at this; exact this) n hnm hnb
          obtain ⟨gb, hgb⟩ : ∃ g, bs[n] = g := ⟨_, rfl⟩
          rw [hq0, hgb] at hgz0
          have hwq : W64 q0 := hok.1
          have hqS : qOk (q1, q0, q2) := ⟨hok.2.1, hok.1, hok.2.2⟩
          have hmid2 := hmid.out.step hnl ((q0, q1, q2), u) hPm hnd1.out
          obtain ⟨lu, hlu⟩ : ∃ l, luL Y (q1, q0, q2) = l := ⟨_, rfl⟩
          simp only at hmid2
          rw [hlu] at hmid2
          have hag := (hR.out.get hs.out (q1, q0, q2)).2
          rw [hlu] at hag
          obtain ⟨⟨v0, v1, v2, v3, v4, v5', v6, v7, v8, v9⟩, hyv, hyl⟩ : ∃ yv : AnV, ((MapS.get (q1, q0, q2) R).map aV).getD (aV .zero) = aV yv ∧ yv.lu = lu := by
            cases hgr : MapS.get (q1, q0, q2) R with
            | none => rw [hgr] at hag; exact ⟨.zero, rfl, hag⟩
            | some y => rw [hgr] at hag; exact ⟨y, rfl, hag⟩
          simp only at hyl
          subst hyl
          have hkn := (Keeps.refl [] w5).alloc (.cells #[.int .i64 q0, .int .i64 q1, .int .u64 q2] tK)
          have hbKs := heap_alloc_new w5 (.cells #[.int .i64 q0, .int .i64 q1, .int .u64 q2] tK)
          have hMSc := hMS5.keeps ktS hkn
          have hlkS := MapS.M.look ktS Tryz.underlying72 (aV .zero) zeroA hMSc hqS
          rw [hyv] at hlkS
          simp only [ktS, qV, aV, AnV.v] at hlkS
          have hfl := fun W => field_lu W v0 v1 v2 v3 v4 v5' v6 (.slice v7 v8 v9) rfl
          have hMMc := hM5'.keeps ktZ hkn
          rw [← hmsP] at hMMc hgz0
          have hBXc := hX5.keeps hkn
          have hkcc := hk35.trans hkn.of_nil
          have hrgc := hrg2.keeps hkn
          have hItc : ∃ a s nn c, (w5.alloc (.cells #[.int .i64 q0, .int .i64 q1, .int .u64 q2] tK)).heap[rI]? = some (Obj.mapIter a s nn c) := by
            obtain ⟨a1, a2, a3, a4, e⟩ := hIt0
            exact ⟨a1, a2, a3, a4, (hkn.block _ (by obtain ⟨h, _⟩ := Array.getElem?_eq_some_iff.1 e; exact h) (by simp)).trans e⟩
          have hll : (P[n].at 1).length ≤ 1000000 := by
            have e := (hmid.out.at' n hnl (by omega)).2.2.2.2
            show P[n].sc.length ≤ _
            rw [e]
            unfold scD
            exact Nat.le_trans (List.length_filterMap_le _ _) hDl
          have hbMK : bM < w5.heap.size := by have := hk35.size; have := hZ0.out; omega
          simp only [ktK, qV, zV] at hen
          have hMM := Lib.hid hMMc
          have hBX := Lib.hid hBXc
          have hkc := Lib.hid hkcc
          replace hrgc := Lib.hid hrgc
          replace hItc := Lib.hid hItc
          replace hll := Lib.hid hll
          replace hgb := Lib.hid hgb
          replace hbKs := Lib.hid hbKs
          replace hpm2 := Lib.hid hpm2
          replace hmid2 := Lib.hid hmid2
          replace hmsP := Lib.hid hmsP
          replace hPm := Lib.hid hPm
          replace hq0 := Lib.hid hq0
          replace hMSc := Lib.hid hMSc
          replace hlu := Lib.hid hlu
          replace hlen := Lib.hid hlen
          have hgz := hgz0
          clear hgz0 hMMc hBXc hkcc hk5r hIt0 hItr hX5 hM5' hMS5 hk35 hkn hyv hag hqS hrg2 hg2 hs2 hperm hum hgu hok hmem hrg hpm hmid hMr hXr hMSr hkr
          obtain ⟨t0, t1, t2, tf, tl⟩ := cl3 hbKs.out
          go_upto_region 19 with fail
          generalize (w5.alloc (.cells #[.int .i64 q0, .int .i64 q1, .int .u64 q2] tK)) = wc at *
          obtain ⟨XK, hXK⟩ : ∃ X, w5.heap.size = X := ⟨_, rfl⟩
          rw [hXK] at hbKs hbMK t0 t1 t2 tl ⊢
          replace hXK := Lib.hid hXK
          clear hlkS hfl hen tf
          obtain ⟨⟨sa, sn, sc⟩, hv0⟩ : ∃ x, V n 1 = x := ⟨_, rfl⟩
          have hOn := hBX.out.o n 1 (by omega) (by omega)
          rw [hv0] at hOn
          simp only [slv] at hOn
          have hbx := (hBX.out.b n (by omega) (by have := hBX.out.len; omega)).2
          rw [hgb.out] at hbx
          simp only [bxC] at hbx
          obtain ⟨m0, m1, m2, m3, m4, mf, ml⟩ := cl5 hbx
          rw [hv0] at m3
          simp only [slv] at m3
          have hgZ : Z0 ≤ gb := by
            have := (hBX.out.b n (by omega) (by have := hBX.out.len; omega)).1
            rw [hgb.out] at this
            exact this
          have hne1 : ∀ b, (Value.slice sa sn sc).ownBlock = some b → b ≠ gb := fun b e e2 => by
            subst e2
            obtain ⟨cs, hc⟩ := hOn.tag _ e
            exact tag_ne hc hbx (by decide) rfl
          have hne2 : ∀ b, (Value.slice sa sn sc).ownBlock = some b → b ≠ XK := fun b e e2 => by
            subst e2
            obtain ⟨cs, hc⟩ := hOn.tag _ e
            exact tag_ne hc hbKs.out (by decide) rfl
          replace hne2 := Lib.hid hne2
          have hXg : XK ≠ gb := fun e => by
            subst e
            exact tag_ne hbKs.out hbx (by decide) rfl
          replace hne1 := Lib.hid hne1
          replace hOn := Lib.hid hOn
          have hlkZ : ∀ w' : World, w'.heap[bM]? = wc.heap[bM]? → (Instr.lookup 99 (.map (some bM)) (.int .i64 q0) false).run Tryz.prog w' = .ok (.pointer (some ⟨gb, 0, none⟩)) w' := fun w' e => by
            have := MapS.M.look ktZ Tryz.underlying99 (.pointer none) zeroP (hMM.out.at' e) hwq
            rw [hgz] at this
            simpa only [ktZ, zV, Option.map_some, Option.getD_some, pV] using this
          have hbMw : bM < wc.heap.size := MapS.M.lt ktZ hMM.out
          have hneM : ∀ b, (Value.slice sa sn sc).ownBlock = some b → b ≠ bM := fun b e e2 => by
            have := hOn.out.ge b e
            omega
          replace hlkZ := Lib.hid hlkZ
          replace hneM := Lib.hid hneM
          go_wp2
          refine Free.wp_region_chain (fun i => i == 17 || i == 18 || i == 21) (fun i => true) (fun j b => (j = 18 ∧ (Value.slice sa sn sc).ownBlock = some b) ∨ (j = 21 ∧ b = gb)) (by kernel_rfl) (by kernel_rfl) (by kernel_rfl) ?_
          (repeat (first | (apply Free.cw_pure rfl rfl; (intro w'; go_simp <;> exact rfl); go_frame) | (apply Free.cw_steady rfl rfl rfl; (intro w' hS; have z0 := hlkZ.out w' (hS.block bM hbMw (fun ⟨j, _, _, hT⟩ => Or.elim hT (fun h => hneM.out _ h.2 rfl) (fun h => by omega))); have q0 := Free.sx_cell hS m3 (fun j hp hT => Or.elim hT (fun h => hne1.out _ h.2 rfl) (fun h => by obtain ⟨rfl, _⟩ := h; exact absurd hp (by decide +kernel))); have q1 := Free.sx_cell hS t1 (fun j hp hT => Or.elim hT (fun h => hne2.out _ h.2 rfl) (fun h => hXg h.2)); have q2 := Free.sx_cell hS t2 (fun j hp hT => Or.elim hT (fun h => hne2.out _ h.2 rfl) (fun h => hXg h.2)); have q3 := Free.sx_cell hS t0 (fun j hp hT => Or.elim hT (fun h => hne2.out _ h.2 rfl) (fun h => hXg h.2)); go_simp <;> exact rfl); go_frame) | (refine Free.cw_skip rfl ?_; go_frame)))
          refine Free.cw_loud rfl rfl (fun K hK => ?_)
          go_wp2
          refine hK _ _ rfl (Free.KeepsP.alloc _ _ _) ?_
          clear hK K
          (repeat (apply Free.cw_pure rfl rfl; (intro w'; go_simp <;> exact rfl); go_frame))
          refine Free.cw_loud rfl rfl (fun K hK => ?_)
          have hkE : Keeps [] wc ((wc.alloc (.cells #[.int .i64 q1, .int .u64 q2, .int .i64 v6] tN)).drew) := ((Keeps.refl _ _).alloc _).drew
          have hmade := (Sh.O.one shT wc (q1, q2, v6) #[.int .i64 q1, .int .u64 q2, .int .i64 v6] tN 0 rfl (by omega)).keeps ((Keeps.refl [] _).drew)
          have hOE := hOn.out.keeps hkE
          have hXE := hBX.out.keeps hkE
          have hlE := hkE.size
          refine Sh.wp_app shT Z0 infoN rfl Tryz.underlying44 (.slice sa sn sc) (.slice (some ⟨wc.heap.size, 0, none⟩) 1 1) (P[n].at 1) [(q1, q2, v6)] _ _ rfl rfl rfl hOE hmade.r (by have := hll.out; simp only [List.length_cons, List.length_nil]; omega) (Nat.le_trans (show Z0 ≤ wc.heap.size by have h1 := hkc.out.size; have h2 := hZ0.out; omega) hlE) ?_
          intro v5 w5 hO5 hG5
          obtain ⟨a5, c5, rfl⟩ := hO5.form
          obtain ⟨N5, hN5⟩ : ∃ q, (P[n].at 1 ++ [(q1, q2, v6)]).length = q := ⟨_, rfl⟩
          rw [hN5] at hO5 hG5 ⊢
          refine hK _ _ rfl (Free.KeepsP.of hG5.keepsO (fun b hb => .inl ⟨rfl, by simpa using hb⟩)) ?_
          clear hK K
          have hX6 := hXE.app2 (k := n) (j := 1) (gb := gb) (by omega) (by have := hBX.out.len; omega) hgb.out (by omega) (v' := (a5, N5, c5)) (by rw [hv0]; exact hG5) hO5
          have hng5 : gb ∉ (Value.slice sa sn sc).ownBlock.toList := fun hm => hne1.out gb (by simpa using hm) rfl
          have hgl5 : gb < ((wc.alloc (.cells #[.int .i64 q1, .int .u64 q2, .int .i64 v6] tN)).drew).heap.size := Nat.lt_of_lt_of_le ml hlE
          have m5 := (hG5.keepsO.cell gb 3 hgl5 hng5).trans (hkE.val m3)
          have f5 := (hG5.keepsO.frozen gb 3 hgl5 hng5).trans ((hkE.frozen gb 3 ml (by simp)).trans (mf _))
          have hkS : Keeps [gb] w5 (w5.setCell ⟨gb, 2 + 1, none⟩ (.slice a5 N5 c5)) := (Keeps.refl _ _).setCell (.inr (by simp)) _
          have hk6 : Keeps [bM] w3 (w5.setCell ⟨gb, 2 + 1, none⟩ (.slice a5 N5 c5)) := ((hkc.out.trans hkE.of_nil).fresh hG5.keepsO (fun b hb => .inr (by have h1 := hOE.ge b (by simpa using hb); have h2 := hZ0.out; omega))).fresh hkS (fun b hb => by simp at hb; subst hb; exact .inr (by have h2 := hZ0.out; omega))
          have hM6 := ((hMM.out.keeps ktZ hkE).kept ktZ hG5.keepsO (fun hm => by have := hOE.ge bM (by simpa using hm); omega)).kept ktZ hkS (by simp; omega)
          have hgl6 := lt_of_cell m5
          rw [← map_set_upd P (n := n) (by omega) 1 (P[n].at 1 ++ [(q1, q2, v6)])] at hM6
          have hrow : rI ∉ (Value.slice sa sn sc).ownBlock.toList := fun hm => by
            obtain ⟨cs, hc⟩ := hOn.out.tag _ (by simpa using hm)
            obtain ⟨a1, a2, a3, a4, e⟩ := hItc.out
            rw [e] at hc; cases hc
          have hgr : rI ≠ gb := fun e => by
            subst e
            obtain ⟨a1, a2, a3, a4, e⟩ := hItc.out
            rw [e] at hbx; cases hbx
          have hrg6 := ((hrgc.out.keeps hkE).kept hG5.keepsO (fun hm => by have := hOE.ge bK (by simpa using hm); omega) hrow).kept hkS (by simp; omega) (by simpa using hgr)
          have hMS6 := ((hMSc.out.keeps ktS hkE).kept ktS hG5.keepsO (fun hm => by have := hOE.ge bS (by simpa using hm); omega)).kept ktS hkS (by simp; omega)
          have hM7 := hM6
          rw [map_set_upd P (n := n) hnl, hmsP.out] at hM7
          replace hrg6 := Lib.hid hrg6
          replace hMS6 := Lib.hid hMS6
          replace hM7 := Lib.hid hM7
          clear hrow hgr
          replace hX6 := Lib.hid hX6
          replace hk6 := Lib.hid hk6
          replace hM6 := Lib.hid hM6
          replace hkS := Lib.hid hkS
          clear hO5 hG5 hmade hOE hXE hkE hlE hng5 hgl5 hbx
          (repeat (apply Free.cw_pure rfl rfl; (intro w'; go_simp <;> exact rfl); go_frame))
          refine Free.cw_loud rfl rfl (fun K hK => ?_)
          go_wp2
          refine hK _ _ rfl (Free.KeepsP.of hkS.out (fun b hb => .inr ⟨trivial, by simpa using hb⟩)) ?_
          clear hK K
          refine Free.cw_nil ?_
          go_wp2
          go_roundg R'.length
          case measure => exact hrl2
          case rel => exact ⟨R', _, _, _, rfl, hrg6, hpm2, hmid2, hM7, hX6, hMS6, hk6⟩
end Go.Proofs.YtiplgpefapeapaaGreatDoor

namespace Go.Proofs.YtiplgpefapeapaaGreatDoor
open Go.RowKit

set_option maxRecDepth 100000 in
set_option maxHeartbeats 2000000 in
theorem eqNeeds_c (w : World) (v1 v2 : Value) (L1 L2 : List T3) (h1 : shT.R w v1 L1) (h2 : shT.R w v2 L2) :
    Calls Tryz.prog 62 #[v1, v2] w fun e w' => e = .returned (.bool (decide (L1 = L2))) ∧ Keeps [] w w' := by
  obtain ⟨a1, c1, rfl, hlc1, hcm1, _⟩ := h1.form
  obtain ⟨a2, c2, rfl, hlc2, hcm2, _⟩ := h2.form
  have hel1 := fun k hk => h1.elem (k := k) hk
  have hel2 := fun k hk => h2.elem (k := k) hk
  obtain ⟨M1, hM1⟩ : ∃ N, L1.length = N := ⟨_, rfl⟩
  obtain ⟨M2, hM2⟩ : ∃ N, L2.length = N := ⟨_, rfl⟩
  rw [hM1] at hlc1 ⊢
  rw [hM2] at hlc2 ⊢
  have hMm : M1 ≤ 9223372036854775807 := by unfold maxLen at hcm1; omega
  replace hel1 := Lib.hid hel1
  replace hel2 := Lib.hid hel2
  replace hM1 := Lib.hid hM1
  replace hM2 := Lib.hid hM2
  clear h1 h2 hcm1 hcm2
  obtain ⟨rb, hrb⟩ : ∃ b, decide (L1 = L2) = b := ⟨_, rfl⟩
  rw [hrb]
  replace hrb := Lib.hid hrb
  by_cases hne : M1 = M2
  · subst hne
    go_enter Tryz.func62, Tryz.ntmps62
    go_wp2
    go_loopw [13] (fun i wr => ∃ k : Nat, i = .int .i64 k ∧ k ≤ M1 ∧ Hid (∀ j (h1 : j < L1.length) (h2 : j < L2.length), j < k → L1[j] = L2[j]) ∧ Hid (Keeps [] w wr)) (fun i _ => M1 - (intOf i).toNat)
    case atStart => exact ⟨0, rfl, by omega, Lib.hid (fun _ _ _ h => by omega), Lib.hid (Keeps.refl _ _)⟩
    case round =>
      obtain ⟨k, rfl, hk, hno, hkw⟩ := hrel
      by_cases hlt : k < M1
      · have hk1 : k < L1.length := by rw [hM1.out]; exact hlt
        have hk2 : k < L2.length := by rw [hM2.out]; exact hlt
        obtain ⟨g, o, c', hv, he⟩ := hel1.out k hk1
        obtain ⟨g2, o2, c2', hv2, he2⟩ := hel2.out k hk2
        rw [hM1.out] at hv
        rw [hM2.out] at hv2
        cases hv
        cases hv2
        obtain ⟨⟨x0, x1, x2⟩, hx⟩ : ∃ x, L1[k] = x := ⟨_, rfl⟩
        obtain ⟨⟨y0, y1, y2⟩, hy⟩ : ∃ x, L2[k] = x := ⟨_, rfl⟩
        rw [hx] at he
        rw [hy] at he2
        have e0 := hkw.out.val (he 0 _ rfl)
        have e1 := hkw.out.val (he 1 _ rfl)
        have e2 := hkw.out.val (he 2 _ rfl)
        have d0 := hkw.out.val (he2 0 _ rfl)
        have d1 := hkw.out.val (he2 1 _ rfl)
        have d2 := hkw.out.val (he2 2 _ rfl)
        simp only [shT, Nat.add_zero] at e0 e1 e2 d0 d1 d2
        have hq := fun w => neN w (x0, x1, x2) (y0, y1, y2)
        simp only [tV] at hq
        replace hx := Lib.hid hx
        replace hy := Lib.hid hy
        clear he he2
        by_cases h1 : (x0, x1, x2) = (y0, y1, y2)
        · rw [decide_eq_false (fun h => h h1)] at hq
          replace h1 := Lib.hid h1
          go_wp2
          (refine wp_region_quiet_lit (by kernel_rfl) (by kernel_rfl) ?_; (repeat (first | go_big_quiet_step (fail) | quiet_step (fail))); with_reducible refine wpQuiet_nil ?_; intro _ hw'; obtain ⟨nq, hw''⟩ := hw'; subst hw'')
          go_wp2
          go_roundw
          case rel => exact ⟨k + 1, rfl, by omega, Lib.hid (fun j hj1 hj2 hjk => by
              by_cases e : j = k
              · subst e; rw [hx.out, hy.out]; exact h1.out
              · exact hno.out j hj1 hj2 (by omega)), Lib.hid (hkw.out.drewN _)⟩
          case measure => simp [intOf]; omega
        · rw [decide_eq_true h1] at hq
          have hr : decide (L1 = L2) = false := decide_eq_false (fun e => h1 (by rw [← hx.out, ← hy.out]; simp only [e]))
          rw [hrb.out] at hr
          replace hr := Lib.hid hr
          replace h1 := Lib.hid h1
          go_wp2
          (refine wp_region_quiet_lit (by kernel_rfl) (by kernel_rfl) ?_; (repeat (first | go_big_quiet_step (fail) | quiet_step (fail))); with_reducible refine wpQuiet_nil ?_; intro _ hw'; obtain ⟨nq, hw''⟩ := hw'; subst hw'')
          go_wp2
          go_ret
          exact ⟨by rw [hr.out]; rfl, hkw.out.drewN _⟩
      · have hr : decide (L1 = L2) = true := decide_eq_true (List.ext_getElem (by rw [hM1.out, hM2.out]) (fun j h1 h2 => hno.out j h1 h2 (by rw [hM1.out] at h1; omega)))
        rw [hrb.out] at hr
        replace hr := Lib.hid hr
        go_wp2
        go_ret
        exact ⟨by rw [hr.out]; rfl, hkw.out⟩
  · have hne1 : ((M1 : Int) != M2) = true := by simp; omega
    have hr : decide (L1 = L2) = false := decide_eq_false (fun e => hne (by rw [← hM1.out, ← hM2.out, e]))
    rw [hrb.out] at hr
    replace hr := Lib.hid hr
    go_enter Tryz.func62, Tryz.ntmps62
    go_wp2
    go_ret
    exact ⟨by rw [hr.out]; rfl, Keeps.refl _ _⟩
set_option maxRecDepth 100000 in
set_option maxHeartbeats 4000000 in
theorem sameClaimP_c (w : World) (x y : ClV) (p q : PCl) (h1 : CR w x p) (h2 : CR w y q) :
    Calls Tryz.prog 37 #[clV x, clV y] w fun e w' => e = .returned (.bool (decide (p = q))) ∧ Keeps [] w w' := by
  have hdec := decide_pcl p q
  obtain ⟨rb, hrb⟩ : ∃ b, decide (p = q) = b := ⟨_, rfl⟩
  rw [hrb] at hdec ⊢
  obtain ⟨x0, x1, ⟨a1, a2, a3⟩, ⟨b1, b2, b3⟩, ⟨c1, c2, c3⟩⟩ := x
  obtain ⟨y0, y1, ⟨d1, d2, d3⟩, ⟨e1, e2, e3⟩, ⟨g1, g2, g3⟩⟩ := y
  obtain ⟨m1, m2, m3, m4, m5⟩ := h1
  obtain ⟨n1, n2, n3, n4, n5⟩ := h2
  simp only [slv] at m1 m2 m3 m4 m5 n1 n2 n3 n4 n5
  rw [← m1, ← m2, ← n1, ← n2] at hdec
  have hc1 := fun (W : World) (hk : Keeps [] w W) => eqNeeds_c W _ _ _ _ (m3.keeps hk) (n3.keeps hk)
  have hc2 := fun (W : World) (hk : Keeps [] w W) => eqNeeds_c W _ _ _ _ (m4.keeps hk) (n4.keeps hk)
  have hc3 := fun (W : World) (hk : Keeps [] w W) => eqNeeds_c W _ _ _ _ (m5.keeps hk) (n5.keeps hk)
  obtain ⟨s1, hs1⟩ : ∃ b, decide (p.st = q.st) = b := ⟨_, rfl⟩
  obtain ⟨s2, hs2⟩ : ∃ b, decide (p.sc = q.sc) = b := ⟨_, rfl⟩
  obtain ⟨s3, hs3⟩ : ∃ b, decide (p.ch = q.ch) = b := ⟨_, rfl⟩
  rw [hs1] at hc1 hdec
  rw [hs2] at hc2 hdec
  rw [hs3] at hc3 hdec
  have hkA : Keeps [] w ((w.alloc (.cells #[.int .i64 x0, .int .i64 x1, .slice a1 a2 a3, .slice b1 b2 b3, .slice c1 c2 c3] tC)).alloc (.cells #[.int .i64 y0, .int .i64 y1, .slice d1 d2 d3, .slice e1 e2 e3, .slice g1 g2 g3] tC)) := ((Keeps.refl _ _).alloc _).alloc _
  have hbA : ((w.alloc (.cells #[.int .i64 x0, .int .i64 x1, .slice a1 a2 a3, .slice b1 b2 b3, .slice c1 c2 c3] tC)).alloc (.cells #[.int .i64 y0, .int .i64 y1, .slice d1 d2 d3, .slice e1 e2 e3, .slice g1 g2 g3] tC)).heap[w.heap.size]? = some (.cells #[.int .i64 x0, .int .i64 x1, .slice a1 a2 a3, .slice b1 b2 b3, .slice c1 c2 c3] tC (0, 0)) :=
    (((Keeps.refl [] _).alloc _).block w.heap.size (by simp) (by simp)).trans (heap_alloc_new w _)
  have hbB : ((w.alloc (.cells #[.int .i64 x0, .int .i64 x1, .slice a1 a2 a3, .slice b1 b2 b3, .slice c1 c2 c3] tC)).alloc (.cells #[.int .i64 y0, .int .i64 y1, .slice d1 d2 d3, .slice e1 e2 e3, .slice g1 g2 g3] tC)).heap[w.heap.size + 1]? = some (.cells #[.int .i64 y0, .int .i64 y1, .slice d1 d2 d3, .slice e1 e2 e3, .slice g1 g2 g3] tC (0, 0)) := by
    have h3 := heap_alloc_new (w.alloc (.cells #[.int .i64 x0, .int .i64 x1, .slice a1 a2 a3, .slice b1 b2 b3, .slice c1 c2 c3] tC)) (.cells #[.int .i64 y0, .int .i64 y1, .slice d1 d2 d3, .slice e1 e2 e3, .slice g1 g2 g3] tC)
    rwa [show (w.alloc (.cells #[.int .i64 x0, .int .i64 x1, .slice a1 a2 a3, .slice b1 b2 b3, .slice c1 c2 c3] tC)).heap.size = w.heap.size + 1 by simp] at h3
  replace hbA := Lib.hid hbA
  replace hbB := Lib.hid hbB
  replace hc1 := Lib.hid hc1
  replace hc2 := Lib.hid hc2
  replace hc3 := Lib.hid hc3
  replace hdec := Lib.hid hdec
  replace hkA := Lib.hid hkA
  clear m1 m2 m3 m4 m5 n1 n2 n3 n4 n5 hs1 hs2 hs3 hrb
  simp only [clV, slv]
  by_cases f1 : x0 = y0
  case neg =>
    have k1 : (x0 == y0) = false := by simpa using f1
    have hd := hdec.out
    rw [k1, Bool.false_and] at hd
    subst hd
    go_enter Tryz.func37, Tryz.ntmps37
    go_wp2
    go_ret
    exact ⟨rfl, hkA.out⟩
  case pos =>
  subst f1
  have k1 : (x0 == x0) = true := by simp
  by_cases f2 : x1 = y1
  case neg =>
    have k2 : (x1 == y1) = false := by simpa using f2
    have hd := hdec.out
    rw [k1, k2, Bool.true_and, Bool.false_and] at hd
    subst hd
    go_enter Tryz.func37, Tryz.ntmps37
    go_wp2
    go_ret
    exact ⟨rfl, hkA.out⟩
  case pos =>
  subst f2
  have k2 : (x1 == x1) = true := by simp
  have hd := hdec.out
  rw [k1, k2, Bool.true_and, Bool.true_and] at hd
  subst hd
  clear hdec k1 k2
  go_enter Tryz.func37, Tryz.ntmps37
  go_wp2_with fail
  refine (hc1.out _ hkA.out).mono ?_
  rintro e w1 ⟨rfl, hk1⟩
  have hk01 := hkA.out.trans hk1
  have hb1 := (hk1.block _ (lt_of_blk hbA.out) (by simp)).trans hbA.out
  have hb2 := (hk1.block _ (lt_of_blk hbB.out) (by simp)).trans hbB.out
  obtain ⟨_, _, p2, p3, p4, _⟩ := cells5 hb1
  obtain ⟨_, _, q2, q3, q4, _⟩ := cells5 hb2
  replace hk01 := Lib.hid hk01
  replace hb1 := Lib.hid hb1
  replace hb2 := Lib.hid hb2
  clear hbA hbB hkA hk1 hc1
  cases s1 with
  | false =>
    go_wp2
    go_ret
    exact ⟨rfl, hk01.out⟩
  | true =>
  go_wp2_with fail
  refine (hc2.out _ hk01.out).mono ?_
  rintro e w2 ⟨rfl, hk2⟩
  have hk02 := hk01.out.trans hk2
  have hb3 := (hk2.block _ (lt_of_blk hb1.out) (by simp)).trans hb1.out
  have hb4 := (hk2.block _ (lt_of_blk hb2.out) (by simp)).trans hb2.out
  obtain ⟨_, _, p2, p3, p4, _⟩ := cells5 hb3
  obtain ⟨_, _, q2, q3, q4, _⟩ := cells5 hb4
  replace hk02 := Lib.hid hk02
  clear hb1 hb2 hb3 hb4 hk01 hk2 hc2
  cases s2 with
  | false =>
    go_wp2
    go_ret
    exact ⟨rfl, hk02.out⟩
  | true =>
  go_wp2_with fail
  refine (hc3.out _ hk02.out).mono ?_
  rintro e w3 ⟨rfl, hk3⟩
  have hk03 := hk02.out.trans hk3
  replace hk03 := Lib.hid hk03
  go_wp2
  go_ret
  exact ⟨rfl, hk03.out⟩
set_option maxRecDepth 100000 in
set_option maxHeartbeats 4000000 in
theorem eqClaims_c (w : World) (v1 v2 : Value) (L1 L2 : List PCl) (h1 : LC w v1 L1) (h2 : LC w v2 L2) :
    Calls Tryz.prog 35 #[v1, v2, fnV 37] w fun e w' => e = .returned (.bool (decide (L1 = L2))) ∧ Keeps [] w w' := by
  obtain ⟨a1, c1, rfl, hlc1, hcm1⟩ := h1.form
  obtain ⟨a2, c2, rfl, hlc2, hcm2⟩ := h2.form
  obtain ⟨M1, hM1⟩ : ∃ N, L1.length = N := ⟨_, rfl⟩
  obtain ⟨M2, hM2⟩ : ∃ N, L2.length = N := ⟨_, rfl⟩
  rw [hM1] at hlc1 h1 ⊢
  rw [hM2] at hlc2 h2 ⊢
  have hMm : M1 ≤ 9223372036854775807 := by unfold maxLen at hcm1; omega
  replace h1 := Lib.hid h1
  replace h2 := Lib.hid h2
  replace hM1 := Lib.hid hM1
  replace hM2 := Lib.hid hM2
  clear hcm1 hcm2
  obtain ⟨rb, hrb⟩ : ∃ b, decide (L1 = L2) = b := ⟨_, rfl⟩
  rw [hrb]
  replace hrb := Lib.hid hrb
  by_cases hne : M1 = M2
  · subst hne
    go_enter Tryz.func35, Tryz.ntmps35
    go_wp2
    go_loopw [17] (fun i wr => ∃ k : Nat, i = .int .i64 k ∧ k ≤ M1 ∧ Hid (∀ j (h1 : j < L1.length) (h2 : j < L2.length), j < k → L1[j] = L2[j]) ∧ Hid (Keeps [] w wr)) (fun i _ => M1 - (intOf i).toNat)
    case atStart => exact ⟨0, rfl, by omega, Lib.hid (fun _ _ _ h => by omega), Lib.hid (Keeps.refl _ _)⟩
    case round =>
      obtain ⟨k, rfl, hk, hno, hkw⟩ := hrel
      by_cases hlt : k < M1
      · have hlt2 : (k : Int) < M1 := by omega
        have hk1 : k < L1.length := by rw [hM1.out]; exact hlt
        have hk2 : k < L2.length := by rw [hM2.out]; exact hlt
        obtain ⟨g, o, c', x, hv, hxr, e0, e1, e2, e3, e4⟩ := (h1.out.keeps hkw.out).elem hk1
        obtain ⟨g2, o2, c2', y, hv2, hyr, d0, d1, d2, d3, d4⟩ := (h2.out.keeps hkw.out).elem hk2
        rw [hM1.out] at hv
        rw [hM2.out] at hv2
        cases hv
        cases hv2
        have hcon := fun (W : World) (hk : Keeps [] wr W) => sameClaimP_c W x y _ _ (hxr.keeps hk) (hyr.keeps hk)
        obtain ⟨sb, hsb⟩ : ∃ b, decide (L1[k] = L2[k]) = b := ⟨_, rfl⟩
        rw [hsb] at hcon
        obtain ⟨x0, x1, ⟨x2, x3, x4⟩, ⟨x5, x6, x7⟩, ⟨x8, x9, x10⟩⟩ := x
        obtain ⟨y0, y1, ⟨y2, y3, y4⟩, ⟨y5, y6, y7⟩, ⟨y8, y9, y10⟩⟩ := y
        simp only [clV, slv] at hcon e0 e1 e2 e3 e4 d0 d1 d2 d3 d4
        have hkA : Keeps [] wr ((wr.alloc (.cells #[.int .i64 x0, .int .i64 x1, .slice x2 x3 x4, .slice x5 x6 x7, .slice x8 x9 x10] tC)).alloc (.cells #[.int .i64 y0, .int .i64 y1, .slice y2 y3 y4, .slice y5 y6 y7, .slice y8 y9 y10] tC)) := ((Keeps.refl [] wr).alloc _).alloc _
        have hcn := hcon _ hkA
        have hkA2 := hkw.out.trans hkA
        replace hcn := Lib.hid hcn
        replace hsb := Lib.hid hsb
        replace hkA2 := Lib.hid hkA2
        have hg2l := lt_of_cell d0
        clear hxr hyr hcon hkA
        go_wp2_with fail
        refine hcn.out.mono ?_
        rintro e w2 ⟨rfl, hkB⟩
        have hkw2 := Lib.hid (hkA2.out.trans hkB)
        clear hkB hkA2 hkw hcn
        cases sb with
        | true =>
          go_wp2
          go_roundw
          case rel => exact ⟨k + 1, rfl, by omega, Lib.hid (fun j hj1 hj2 hjk => by
              by_cases e : j = k
              · subst e; exact of_decide_eq_true hsb.out
              · exact hno.out j hj1 hj2 (by omega)), hkw2⟩
          case measure => simp [intOf]; omega
        | false =>
          have hr : decide (L1 = L2) = false := decide_eq_false (fun e => of_decide_eq_false hsb.out (by simp only [e]))
          rw [hrb.out] at hr
          replace hr := Lib.hid hr
          go_wp2
          go_ret
          exact ⟨by rw [hr.out]; rfl, hkw2.out⟩
      · have hlt2 : ¬ ((k : Int) < M1) := by omega
        have hr : decide (L1 = L2) = true := decide_eq_true (List.ext_getElem (by rw [hM1.out, hM2.out]) (fun j h1 h2 => hno.out j h1 h2 (by rw [hM1.out] at h1; omega)))
        rw [hrb.out] at hr
        replace hr := Lib.hid hr
        go_wp2
        go_ret
        exact ⟨by rw [hr.out]; rfl, hkw.out⟩
  · have hne1 : ((M1 : Int) != M2) = true := by simp; omega
    have hr : decide (L1 = L2) = false := decide_eq_false (fun e => hne (by rw [← hM1.out, ← hM2.out, e]))
    rw [hrb.out] at hr
    replace hr := Lib.hid hr
    go_enter Tryz.func35, Tryz.ntmps35
    go_wp2
    go_ret
    exact ⟨by rw [hr.out]; rfl, Keeps.refl _ _⟩
end Go.Proofs.YtiplgpefapeapaaGreatDoor
