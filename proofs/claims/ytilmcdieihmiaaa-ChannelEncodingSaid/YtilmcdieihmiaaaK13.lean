/- Texts that the laws lean on, in the order in which they build. The walk of the law on encoding. -/
import Derived.Test.YtilmcdieihmiaaaK12
set_option linter.unusedVariables false
set_option linter.unusedSimpArgs false
namespace Go.Proofs.Ytilmcdieihmiaaa
open Go.RowKit

theorem agr_eq {C : Chan} {E : REnd} (a : Agr C E) : C = ⟨E.sent, E.acked, E.received, E.kept, eF E.early⟩ := by
  have he : C.early = eF E.early := by
    funext s
    cases h : C.early s with
    | none =>
      cases h2 : eF E.early s with
      | none => rfl
      | some l => rw [(a.early s l).2 ((eF_mem _ a.sorted s l).1 h2)] at h; cases h
    | some l => exact ((eF_mem _ a.sorted s l).2 ((a.early s l).1 h)).symm
  cases C
  simp only at he
  subst he
  have h1 := a.sent
  have h2 := a.acked
  have h3 := a.received
  have h4 := a.kept
  simp only at h1 h2 h3 h4
  rw [h1, h2, h3, h4]
theorem Joint.dok {C : Chan} {E : REnd} {T : Nat} (h : Joint C E T 5000) (hT : T ≤ 1000) (hc : CI C) : DOk E := by
  have a := h.agr
  have h1 := h.sum
  have h2 := h.sent
  have h3 := h.recv
  rw [a.kept, a.acked, a.sent] at h1
  rw [a.sent] at h2
  refine ⟨by omega, by omega, by omega, by omega, by omega, by omega, a.sorted, fun x hx => ?_, fun x hx => ?_, fun x hx => ?_⟩
  · have hm := (a.early x.1 x.2).2 hx
    have hab := a.above x hx
    have hne : x.1 ≠ (E.received : Int) + 1 := fun e => by
      have := hc.nn
      rw [a.received, ← e, hm] at this; cases this
    have hn := h.near x.1 (by rw [hm]; simp)
    rw [a.received] at hn
    exact ⟨by omega, by have := hn.2; omega⟩
  · have := hc.len x.1 x.2 ((a.early x.1 x.2).2 hx); omega
  · have := h.len x (by rw [a.kept]; exact hx); omega
theorem encE_len {E : REnd} (h : DOk E) : (encE E).length ≤ 20000000000 := by
  have h1 := encEs_len (L := E.early) (fun x hx => ⟨by have := h.ek x hx; have := h.r; omega, by have := h.ed x hx; omega⟩)
  have h2 := encKs_len (L := E.kept) (fun x hx => by have := h.kd x hx; omega)
  have h3 := encHd_len (L := [E.sent, E.acked, E.received, E.early.length]) (fun x hx => by have := h.s; have := h.aq; have := h.r; have := h.n; simp at hx; omega)
  have h4 := h.n
  have h5 := h.k2
  simp only [List.length_cons, List.length_nil] at h3
  unfold encE
  rw [List.length_append, List.length_append]
  omega
set_option maxRecDepth 100000 in
set_option maxHeartbeats 4000000 in
theorem chEnc_c (w : World) (v0 v1 : Value) (L1 L : List OpV) (h1 : SOps w v0 L1) (h : SOps w v1 L) :
    Calls Try.prog 8 #[v0, v1] w fun e w' => e = .returned (.bool true) ∧ Keeps [] w w' := by
  obtain ⟨a1, c1, rfl, _, _, _⟩ := Gen.SlR.form h1
  obtain ⟨a, c, rfl, hlc, hcm, _⟩ := Gen.SlR.form h
  obtain ⟨N1, hN1⟩ : ∃ N, L1.length = N := ⟨_, rfl⟩
  obtain ⟨N, hN⟩ : ∃ N, L.length = N := ⟨_, rfl⟩
  rw [hN] at hlc h ⊢
  rw [hN1] at h1 ⊢
  unfold maxLen at hcm
  replace hN := Lib.hid hN
  replace hN1 := Lib.hid hN1
  replace h := Lib.hid h
  replace h1 := Lib.hid h1
  go_enter Try.func8, Try.ntmps8
  go_wp2_with fail
  refine (awake_c _).mono ?_
  rintro e w1 ⟨rfl, hk1⟩
  go_wp2_with fail
  refine (heavy_c _ _ L1 (h1.out.keeps hk1)).mono ?_
  rintro e w2 ⟨rfl, hk2⟩
  have hk02 := hk1.trans hk2
  clear hk1 hk2
  cases hb1 : hvB L1 with
  | true =>
    clear hb1
    go_wp2
    go_ret
    exact ⟨rfl, hk02⟩
  | false =>
    have hL1 : N1 ≤ 30 ∧ ∀ x ∈ L1, x.d.length ≤ 5000 := by
      unfold hvB at hb1
      rw [Bool.or_eq_false_iff, List.any_eq_false] at hb1
      refine ⟨?_, fun x hx => by simpa using hb1.1 x hx⟩
      have := hb1.2
      have := hN1.out
      simp at *
      omega
    clear hb1
    replace hL1 := Lib.hid hL1
    go_wp2_with fail
    refine (heavy_c _ _ L (h.out.keeps hk02)).mono ?_
    rintro e w3 ⟨rfl, hk3⟩
    replace hk02 := hk02.trans hk3
    clear hk3 w2
    cases hb : hvB L with
    | true =>
      clear hb
      go_wp2
      go_ret
      exact ⟨rfl, hk02⟩
    | false =>
      have hL30 : N ≤ 30 := by
        unfold hvB at hb
        rw [Bool.or_eq_false_iff] at hb
        have := hb.2
        have := hN.out
        simp at *
        omega
      have hLd : ∀ x ∈ L, x.d.length ≤ 5000 := by
        unfold hvB at hb
        rw [Bool.or_eq_false_iff, List.any_eq_false] at hb
        intro x hx
        have := hb.1 x hx
        simpa using this
      clear hb
      replace hLd := Lib.hid hLd
      replace hk02 := Lib.hid hk02
      go_wp2_with fail
      refine (runI_c w3 _ L1 (h1.out.keeps hk02.out) (by rw [hN1.out]; exact hL1.out.1) hL1.out.2).mono ?_
      rintro e w4 ⟨B0, bc0, bm0, n0, vk0, vke0, vee0, C0, E0, rfl, hW0, hJ0, hn0, hown0, hk4, hCI0⟩
      have hdok := hJ0.dok (by have := hL1.out.1; rw [hN1.out]; omega) hCI0
      have hCe := agr_eq hJ0.agr
      have hdec := encE_dec hdok
      have hk04 := hk02.out.trans hk4
      obtain ⟨ae0, ce0, rfl⟩ := hW0.re.early.form
      obtain ⟨ak0, ck0, rfl, _⟩ := hW0.re.kept.form
      obtain ⟨s0, hs0⟩ : ∃ x, E0.sent = x := ⟨_, rfl⟩
      obtain ⟨q0, hq0⟩ : ∃ x, E0.acked = x := ⟨_, rfl⟩
      obtain ⟨r0, hr0⟩ : ∃ x, E0.received = x := ⟨_, rfl⟩
      obtain ⟨K0, hK0⟩ : ∃ x, E0.kept.length = x := ⟨_, rfl⟩
      obtain ⟨M0, hM0⟩ : ∃ x, E0.early.length = x := ⟨_, rfl⟩
      rw [hs0, hq0, hr0, hK0, hM0]
      rw [hK0, hM0] at hW0
      replace hs0 := Lib.hid hs0
      replace hq0 := Lib.hid hq0
      replace hr0 := Lib.hid hr0
      replace hK0 := Lib.hid hK0
      replace hM0 := Lib.hid hM0
      replace hdok := Lib.hid hdok
      replace hCe := Lib.hid hCe
      replace hdec := Lib.hid hdec
      replace hJ0 := Lib.hid hJ0
      replace hW0 := Lib.hid hW0
      replace hk04 := Lib.hid hk04
      clear hk4 hCI0 hown0 hn0
      go_wp2_with fail
      have hkA4 : Keeps [] w4 (w4.alloc (.cells #[.int .i64 s0, .int .i64 q0, .slice ak0 K0 ck0, .int .i64 r0, .slice ae0 M0 ce0] tyEnd)) := (Keeps.refl _ _).alloc _
      have hbA4 := heap_alloc_new w4 (.cells #[.int .i64 s0, .int .i64 q0, .slice ak0 K0 ck0, .int .i64 r0, .slice ae0 M0 ce0] tyEnd)
      have hszA4 : (w4.alloc (.cells #[.int .i64 s0, .int .i64 q0, .slice ak0 K0 ck0, .int .i64 r0, .slice ae0 M0 ce0] tyEnd)).heap.size = w4.heap.size + 1 := by simp
      generalize (w4.alloc (.cells #[.int .i64 s0, .int .i64 q0, .slice ak0 K0 ck0, .int .i64 r0, .slice ae0 M0 ce0] tyEnd)) = W4 at *
      obtain ⟨bx6, hbx6⟩ : ∃ b, w4.heap.size = b := ⟨_, rfl⟩
      rw [hbx6] at hbA4 hszA4 ⊢
      have hW4 := hW0.out.keeps hkA4
      have hk04b := hk04.out.trans hkA4
      replace hW4 := Lib.hid hW4
      replace hk04b := Lib.hid hk04b
      replace hbA4 := Lib.hid hbA4
      clear hkA4 hW0 hk04 hbx6
      refine (encodeS_c W4 _ bc0 bm0 n0 _ C0 E0 hW4.out.ch hJ0.out.agr hdok.out.enc).mono ?_
      rintro e w5 ⟨v5, rfl, hB5, hk5⟩
      have hS5 := hB5.slB
      obtain ⟨a5, c5, rfl⟩ := hS5.form
      obtain ⟨L5, hL5⟩ : ∃ L5, (encE E0).length = L5 := ⟨_, rfl⟩
      have hL5b := encE_len hdok.out
      rw [hL5] at hS5 hL5b ⊢
      have hW5 := hW4.out.keeps hk5
      have hk05 := hk04b.out.trans hk5
      have hb5 := (hk5.block bx6 (by omega) (by simp)).trans hbA4.out
      have hl5 : bx6 < w5.heap.size := by have := hk5.size; omega
      replace hL5 := Lib.hid hL5
      replace hS5 := Lib.hid hS5
      replace hW5 := Lib.hid hW5
      replace hk05 := Lib.hid hk05
      replace hb5 := Lib.hid hb5
      have hW5s := hW5
      have hb5s := hb5
      clear hB5 hk5 hW4 hk04b hbA4 hszA4
      go_wp2_with fail
      refine (decode_c w5 _ (encE E0) hS5.out (by rw [hL5.out]; omega)).mono ?_
      rintro e w6 hP
      rw [hdec.out] at hP
      rcases hP with ⟨_, bc, bm, n6, vk6, rfl, hC6, hn6, hbc, hbm, hne6, hvk6, hk6⟩ | ⟨hz, _⟩
      case inr => exact absurd rfl hz
      simp only at hC6
      rw [← hCe.out] at hC6
      have hW6 := hW5.out.keeps hk6
      have hk06 := hk05.out.trans hk6
      have hb6 := (hk6.block bx6 hl5 (by simp)).trans hb5.out
      have hS6 := hS5.out.keeps hk6
      have hszW6 := hk6.size
      obtain ⟨p0, p1, p2, p3, p4, pf, plt⟩ := cells5 hb6
      have ho6 : ∀ b ∈ own3 bc bm vk6, w5.heap.size ≤ b := fun b hb => by
        simp only [own3, List.mem_cons, Option.mem_toList] at hb
        rcases hb with rfl | rfl | hb
        · exact hbc
        · exact hbm
        · exact (ge_own hC6.kept b hb).1
      replace hW6 := Lib.hid hW6
      replace hk06 := Lib.hid hk06
      replace hb6 := Lib.hid hb6
      replace hS6 := Lib.hid hS6
      replace hC6 := Lib.hid hC6
      replace hk6 := Lib.hid hk6
      replace ho6 := Lib.hid ho6
      clear hS5 hb5
      go_wp2_with fail
      have hEr := encodeER_c w6 _ _ E0 hW6.out.re hdok.out.enc
      rw [hs0.out, hq0.out, hr0.out] at hEr
      refine hEr.mono ?_
      rintro e w7 ⟨v7, rfl, hS7, hk7⟩
      obtain ⟨a7, c7, rfl⟩ := hS7.form
      rw [hL5.out] at hS7 ⊢
      have hS6b := hS6.out.keeps hk7
      have hb7 := (hk7.block bx6 plt (by simp)).trans hb6.out
      have hW7 := hW6.out.keeps hk7
      have hC7 := hC6.out.keeps hk7
      have hk67 := hk6.out.trans hk7
      have hszW7 := hk7.size
      obtain ⟨p0, p1, p2, p3, p4, pf, plt⟩ := cells5 hb7
      replace hS7 := Lib.hid hS7
      replace hS6b := Lib.hid hS6b
      replace hb7 := Lib.hid hb7
      replace hW7 := Lib.hid hW7
      replace hC7 := Lib.hid hC7
      replace hk67 := Lib.hid hk67
      clear hk7 hEr hW6 hS6 hb6 hC6 hk6
      go_wp2_with fail
      refine (same_c w7 _ _ (encE E0) (encE E0) hS6b.out hS7.out).mono ?_
      rintro e _ ⟨rfl, rfl⟩
      rw [show decide (encE E0 = encE E0) = true from by simp]
      have hsent := hJ0.out.sent
      have hrecv := hJ0.out.recv
      have hL130 := hL1.out.1
      have hNN1 := hN1.out
      have hag := hJ0.out.agr
      have hsm := fun (Wx : World) (B' bx' bm' n' : Nat) (vk' : Value) (hC : Ch Wx B' bx' bm' n' vk' C0) (hRe : RE Wx (.slice ak0 K0 ck0) (.slice ae0 M0 ce0) E0) => sameS_c Wx B' bx' bm' n' vk' (.slice ak0 K0 ck0) (.slice ae0 M0 ce0) C0 hC (by rw [hag.kept]; exact hRe.kept) ⟨_, _, _, rfl⟩ (by omega) hJ0.out.sum (by rw [hag.received]; omega) (fun l hl => by have := hJ0.out.len l hl; omega)
      rw [hag.sent, hag.acked, hag.received, hs0.out, hq0.out, hr0.out] at hsm
      replace hsm := Lib.hid hsm
      clear hag hsent hrecv hNN1
      go_wp2_with fail
      refine (hsm.out w7 _ bc bm n6 vk6 hC7.out hW7.out.re).mono ?_
      rintro e w8 ⟨rfl, hk8⟩
      have hb8 := (hk8.block bx6 plt (by simp)).trans hb7.out
      have hW8 := hW7.out.keeps hk8
      have hC8 := hC7.out.keeps hk8
      have hk58 := hk67.out.trans hk8
      have hszW8 := hk8.size
      obtain ⟨p0, p1, p2, p3, p4, pf, plt⟩ := cells5 hb8
      replace hb8 := Lib.hid hb8
      replace hW8 := Lib.hid hW8
      replace hC8 := Lib.hid hC8
      replace hk58 := Lib.hid hk58
      clear hk8 hW7 hS6b hb7 hC7 hk67 hS7
      go_wp2_with fail
      have hI0 : Hid (RunI w5 (w8.alloc (.cells #[.int .i64 s0, .int .i64 q0, .slice ak0 K0 ck0, .int .i64 r0, .slice ae0 M0 ce0] tyEnd)) bc bm w8.heap.size 2000 5000 C0 E0) := by
        have hkA : Keeps [] w8 (w8.alloc (.cells #[.int .i64 s0, .int .i64 q0, .slice ak0 K0 ck0, .int .i64 r0, .slice ae0 M0 ce0] tyEnd)) := (Keeps.refl _ _).alloc _
        have hbe := heap_alloc_new w8 (.cells #[.int .i64 s0, .int .i64 q0, .slice ak0 K0 ck0, .int .i64 r0, .slice ae0 M0 ce0] tyEnd)
        have hWA := hW8.out.keeps hkA
        have hCA := hC8.out.keeps hkA
        have hlt5 := hW5s.out.lt
        have hs58 := hk58.out.size
        have hsA := hkA.size
        have hol8 : ∀ b ∈ own3 bc bm vk6, b < w8.heap.size := fun b hb => by
          simp only [own3, List.mem_cons, Option.mem_toList] at hb
          rcases hb with rfl | rfl | hb
          · exact hC8.out.cells.2.2.2.2.2.2
          · exact hC8.out.early.lt
          · exact (ge_own hC8.out.kept b hb).2
        refine ⟨⟨w5.heap.size, n6, vk6, .slice ak0 K0 ck0, .slice ae0 M0 ce0, ⟨hCA, by omega, hvk6, hWA.re, fun b hb => ⟨fun e => ?_, fun e => ?_⟩, hWA.lt, hWA.nk, hWA.ny⟩, by omega, ?_, fun b hb => ⟨ho6.out b hb, fun e => by have := hol8 b hb; omega⟩⟩, hJ0.out.mono (by have := hL1.out.1; have := hN1.out; omega), hk58.out.trans hkA, hs58⟩
        · have := ho6.out b hb
          have := hlt5 b (.inl e)
          omega
        · have := ho6.out b hb
          have := hlt5 b (.inr e)
          omega
        · rw [hs0.out, hq0.out, hr0.out]; exact hbe
      generalize (w8.alloc (.cells #[.int .i64 s0, .int .i64 q0, .slice ak0 K0 ck0, .int .i64 r0, .slice ae0 M0 ce0] tyEnd)) = W9 at *
      obtain ⟨bx, hbx⟩ : ∃ b, w8.heap.size = b := ⟨_, rfl⟩
      rw [hbx] at hI0 ⊢
      have hbxw : w5.heap.size ≤ bx := hI0.out.fresh
      replace h := Lib.hid (h.out.keeps hk05.out)
      clear hbx hW8 hC8 hb8 p0 p1 p2 p3 p4 pf plt hszW6 hszW7 hszW8 ho6 hk58 hbc hbm hne6 hvk6 hn6
      go_loopw [12] (fun i wr => ∃ (k : Nat) (C : Chan) (E : REnd), i = .int .i64 k ∧ k ≤ N ∧ RunI w5 wr bc bm bx (2000 + k) 5000 C E) (fun i _ => N - (intOf i).toNat)
      case atStart => exact ⟨0, _, _, rfl, by omega, hI0.out⟩
      case round =>
        obtain ⟨k, C, E, rfl, hk, hI⟩ := hrel
        clear hI0
        by_cases hlt : k < N
        · obtain ⟨⟨B, n, vk, vke, vee, hW, hn, hbx, hown⟩, hJ, hkw, _⟩ := hI
          have hkL : k < L.length := by rw [hN.out]; exact hlt
          obtain ⟨g, o, c', ad, cd, hv, x0, x1, x2, hd, hok, hg⟩ := h.out.op hkL
          cases hv
          have hdl := hLd.out _ (List.getElem_mem hkL)
          generalize hOP : L[k] = OP at x0 x1 x2 hd hok hdl
          obtain ⟨K0, N0, D0⟩ := OP
          simp only at x0 x1 x2 hd hdl
          replace x0 := hkw.val x0
          replace x1 := hkw.val x1
          replace x2 := hkw.val x2
          replace hd := hd.keeps hkw
          have hgw : g < wr.heap.size := Nat.lt_of_lt_of_le hg hkw.size
          obtain ⟨p0, p1, p2, p3, p4, pf, plt⟩ := cells5 hbx
          obtain ⟨ae, ce, rfl⟩ := hW.re.early.form
          obtain ⟨ak, ck, rfl, _⟩ := hW.re.kept.form
          obtain ⟨s, hse⟩ : ∃ s, E.sent = s := ⟨_, rfl⟩
          obtain ⟨a, hae⟩ : ∃ s, E.acked = s := ⟨_, rfl⟩
          obtain ⟨r, hre⟩ : ∃ s, E.received = s := ⟨_, rfl⟩
          obtain ⟨KN, hK⟩ : ∃ s, E.kept.length = s := ⟨_, rfl⟩
          obtain ⟨EN, hEN⟩ : ∃ s, E.early.length = s := ⟨_, rfl⟩
          obtain ⟨DN, hDN⟩ : ∃ s, D0.length = s := ⟨_, rfl⟩
          have hst := fun (W : World) (hk : Keeps [] wr W) => step_c W B bc bm n (2000 + k) 5000 vk _ _ _ C E K0 N0 D0 (hW.keeps hk) hJ (by omega) hn (by omega) hok.2 (hd.keeps hk) hdl
          rw [hse, hae, hre, hK, hEN, hDN] at hst
          rw [hse, hae, hre, hK, hEN] at hbx
          rw [hse] at p0
          rw [hae] at p1
          rw [hK] at p2
          rw [hre] at p3
          rw [hEN] at p4
          rw [hDN] at x2
          have hol : ∀ b ∈ own3 bc bm vk, b < wr.heap.size := fun b hb => by
            simp only [own3, List.mem_cons, Option.mem_toList] at hb
            rcases hb with rfl | rfl | hb
            · exact hW.ch.cells.2.2.2.2.2.2
            · exact hW.ch.early.lt
            · exact (ge_own hW.ch.kept b hb).2
          replace hol := Lib.hid hol
          replace hst := Lib.hid hst
          replace hbx := Lib.hid hbx
          replace hkw := Lib.hid hkw
          replace hown := Lib.hid hown
          clear hse hae hre hK hEN hDN hd hJ hdl hok hOP hW
          go_wp2
          refine Free.wp_region_float 6 10 (fun i => i == 6 || i == 10 || i == 11) (fun i => true) (fun j b => j = 6 ∨ (j = 11 ∧ wr.heap.size ≤ b)) (fun i => i == 6 || i == 7 || i == 11) (fun i => true) (fun j b => j = 7 ∨ (j = 11 ∧ wr.heap.size ≤ b)) (by kernel_rfl) (by kernel_rfl) (by kernel_rfl) (by kernel_rfl) (by kernel_rfl) (by kernel_rfl) ?_ ?_
          · (repeat (first | (apply Free.cw_pure rfl rfl; (intro w'; go_simp <;> exact rfl); go_frame) | (apply Free.cw_steady rfl rfl rfl; (intro w' hS; have q0 := Free.sx_cell hS p0 (fun j hp hT => Or.elim hT (fun h => by obtain rfl := h; exact absurd hp (by decide +kernel)) (fun h => by have := h.2; omega)); have q1 := Free.sx_cell hS p1 (fun j hp hT => Or.elim hT (fun h => by obtain rfl := h; exact absurd hp (by decide +kernel)) (fun h => by have := h.2; omega)); have q2 := Free.sx_cell hS p2 (fun j hp hT => Or.elim hT (fun h => by obtain rfl := h; exact absurd hp (by decide +kernel)) (fun h => by have := h.2; omega)); have q3 := Free.sx_cell hS p3 (fun j hp hT => Or.elim hT (fun h => by obtain rfl := h; exact absurd hp (by decide +kernel)) (fun h => by have := h.2; omega)); have q4 := Free.sx_cell hS p4 (fun j hp hT => Or.elim hT (fun h => by obtain rfl := h; exact absurd hp (by decide +kernel)) (fun h => by have := h.2; omega)); have q5 := Free.sx_cell hS x0 (fun j hp hT => Or.elim hT (fun h => by obtain rfl := h; exact absurd hp (by decide +kernel)) (fun h => by have := h.2; omega)); have q6 := Free.sx_cell hS x1 (fun j hp hT => Or.elim hT (fun h => by obtain rfl := h; exact absurd hp (by decide +kernel)) (fun h => by have := h.2; omega)); have q7 := Free.sx_cell hS x2 (fun j hp hT => Or.elim hT (fun h => by obtain rfl := h; exact absurd hp (by decide +kernel)) (fun h => by have := h.2; omega)); go_simp <;> exact rfl); go_frame) | (refine Free.cw_skip rfl ?_; go_frame)))
            refine Free.cw_loud rfl rfl (fun K hK => ?_)
            go_wp2_with fail
            refine (hst.out _ ((Keeps.refl [] wr).drew)).mono ?_
            rintro e w5 ⟨vk', n', C', vke', vee', E', rfl, hW5, hJ5, hn5, _, hk5, hkb5, how5⟩
            refine hK _ _ rfl (Free.KeepsP.of hk5 (fun b hb => .inl trivial)) ?_
            clear hK K
            obtain ⟨ae2, ce2, rfl⟩ := hW5.re.early.form
            obtain ⟨ak2, ck2, rfl, _⟩ := hW5.re.kept.form
            obtain ⟨s2, hs2⟩ : ∃ x, E'.sent = x := ⟨_, rfl⟩
            obtain ⟨q2, hq2⟩ : ∃ x, E'.acked = x := ⟨_, rfl⟩
            obtain ⟨r2, hr2⟩ : ∃ x, E'.received = x := ⟨_, rfl⟩
            obtain ⟨K2, hK2⟩ : ∃ x, E'.kept.length = x := ⟨_, rfl⟩
            obtain ⟨N2, hN2⟩ : ∃ x, E'.early.length = x := ⟨_, rfl⟩
            rw [hs2, hq2, hr2, hK2, hN2]
            rw [hK2, hN2] at hW5
            have hbx5 := (hk5.block bx plt (fun hm => (hown.out bx hm).2 rfl)).trans hbx.out
            have hsz5 := hk5.size
            replace hs2 := Lib.hid hs2
            replace hq2 := Lib.hid hq2
            replace hr2 := Lib.hid hr2
            replace hK2 := Lib.hid hK2
            replace hN2 := Lib.hid hN2
            replace hbx5 := Lib.hid hbx5
            replace hW5 := Lib.hid hW5
            (repeat (apply Free.cw_pure rfl rfl; (intro w'; go_simp <;> exact rfl); go_frame))
            refine Free.cw_loud rfl rfl (fun K hK => ?_)
            go_wp2
            refine hK _ _ rfl (Free.KeepsP.alloc _ _ _) ?_
            clear hK K
            (repeat (apply Free.cw_pure rfl rfl; (intro w'; go_simp <;> exact rfl); go_frame))
            refine Free.cw_loud rfl rfl (fun K hK => ?_)
            go_wp2
            refine hK _ _ rfl (keepsP_remade _ _ _ (.inr ⟨trivial, by simpa using hsz5⟩)) ?_
            clear hK K
            (repeat (apply Free.cw_pure rfl rfl; (intro w'; go_simp <;> exact rfl); go_frame))
            refine Free.cw_nil ?_
            have hkA : Keeps [] w5 (w5.alloc (.cells #[.int .i64 s2, .int .i64 q2, .slice ak2 K2 ck2, .int .i64 r2, .slice ae2 N2 ce2] tyEnd)) := (Keeps.refl _ _).alloc _
            have hy6 := heap_alloc_new w5 (.cells #[.int .i64 s2, .int .i64 q2, .slice ak2 K2 ck2, .int .i64 r2, .slice ae2 N2 ce2] tyEnd)
            have hszA : (w5.alloc (.cells #[.int .i64 s2, .int .i64 q2, .slice ak2 K2 ck2, .int .i64 r2, .slice ae2 N2 ce2] tyEnd)).heap.size = w5.heap.size + 1 := by simp
            have hW6 := Lib.hid (hW5.out.keeps hkA)
            have hk6 : Hid (Keeps (own3 bc bm vk) wr (w5.alloc (.cells #[.int .i64 s2, .int .i64 q2, .slice ak2 K2 ck2, .int .i64 r2, .slice ae2 N2 ce2] tyEnd))) := ((Keeps.refl [] wr).drew.of_nil.trans hk5).trans hkA.of_nil
            have hbx6 := Lib.hid ((hkA.block bx (by simp at hsz5; omega) (by simp)).trans hbx5.out)
            obtain ⟨bz, hbz⟩ : ∃ b, w5.heap.size = b := ⟨_, rfl⟩
            have hbzx : bz ≠ bx := by simp at hsz5; omega
            rw [hbz] at hy6 ⊢
            clear hkA hszA hW5 hk5 hbx5 hkb5
            generalize (w5.alloc (.cells #[.int .i64 s2, .int .i64 q2, .slice ak2 K2 ck2, .int .i64 r2, .slice ae2 N2 ce2] tyEnd)) = w6 at *
            clear hbz
            obtain ⟨y0, y1, y2, y3, y4, yf, ylt⟩ := cells5 hy6
            obtain ⟨p0, p1, p2, p3, p4, pf, plt7⟩ := cells5 hbx6.out
            have hfin := set5_all (w := w6) hbx6.out (by simp [noB]) (.int .i64 s2) (.int .i64 q2) (.slice ak2 K2 ck2) (.int .i64 r2) (.slice ae2 N2 ce2)
            replace hfin := Lib.hid hfin
            replace hy6 := Lib.hid hy6
            replace hJ5 := Lib.hid hJ5
            replace how5 := Lib.hid how5
            go_wp2
            go_roundw
            case rel =>
              obtain ⟨g1, g2, g3⟩ := hfin.out
              have hnb : ∀ v : Value, NE w6 v → v.ownBlock ≠ some bx := fun v hv e => hv bx e _ _ hbx6.out
              exact ⟨k + 1, C', E', rfl, by omega, RunI.next hkw.out hbxw plt hown.out hk6.out hW6.out how5.out hn hn5 hJ5.out (Keeps.refl _ _) g2 g3 (by rw [hs2.out, hq2.out, hr2.out]; exact g1) ⟨hnb _ hW6.out.nk, hnb _ hW6.out.ny⟩⟩
            case measure => simp [intOf]; omega
          · simp only [Free.order2, List.take_succ_cons, List.take_zero, List.drop_succ_cons, List.drop_zero, List.cons_append, List.nil_append]
            (repeat (first | (apply Free.cw_pure rfl rfl; (intro w'; go_simp <;> exact rfl); go_frame) | (apply Free.cw_steady rfl rfl rfl; (intro w' hS; have q0 := Free.sx_cell hS p0 (fun j hp hT => Or.elim hT (fun h => by obtain rfl := h; exact absurd hp (by decide +kernel)) (fun h => by have := h.2; omega)); have q1 := Free.sx_cell hS p1 (fun j hp hT => Or.elim hT (fun h => by obtain rfl := h; exact absurd hp (by decide +kernel)) (fun h => by have := h.2; omega)); have q2 := Free.sx_cell hS p2 (fun j hp hT => Or.elim hT (fun h => by obtain rfl := h; exact absurd hp (by decide +kernel)) (fun h => by have := h.2; omega)); have q3 := Free.sx_cell hS p3 (fun j hp hT => Or.elim hT (fun h => by obtain rfl := h; exact absurd hp (by decide +kernel)) (fun h => by have := h.2; omega)); have q4 := Free.sx_cell hS p4 (fun j hp hT => Or.elim hT (fun h => by obtain rfl := h; exact absurd hp (by decide +kernel)) (fun h => by have := h.2; omega)); have q5 := Free.sx_cell hS x0 (fun j hp hT => Or.elim hT (fun h => by obtain rfl := h; exact absurd hp (by decide +kernel)) (fun h => by have := h.2; omega)); have q6 := Free.sx_cell hS x1 (fun j hp hT => Or.elim hT (fun h => by obtain rfl := h; exact absurd hp (by decide +kernel)) (fun h => by have := h.2; omega)); have q7 := Free.sx_cell hS x2 (fun j hp hT => Or.elim hT (fun h => by obtain rfl := h; exact absurd hp (by decide +kernel)) (fun h => by have := h.2; omega)); go_simp <;> exact rfl); go_frame) | (refine Free.cw_skip rfl ?_; go_frame)))
            refine Free.cw_loud rfl rfl (fun K hK => ?_)
            go_wp2
            refine hK _ _ rfl (Free.KeepsP.alloc _ _ _) ?_
            clear hK K
            refine Free.cw_loud rfl rfl (fun K hK => ?_)
            go_wp2_with fail
            refine (hst.out _ (((Keeps.refl [] wr).alloc _).drew)).mono ?_
            rintro e w5 ⟨vk', n', C', vke', vee', E', rfl, hW5, hJ5, hn5, _, hk5, hkb5, how5⟩
            refine hK _ _ rfl (Free.KeepsP.of hk5 (fun b hb => .inl trivial)) ?_
            clear hK K
            obtain ⟨ae2, ce2, rfl⟩ := hW5.re.early.form
            obtain ⟨ak2, ck2, rfl, _⟩ := hW5.re.kept.form
            obtain ⟨s2, hs2⟩ : ∃ x, E'.sent = x := ⟨_, rfl⟩
            obtain ⟨q2, hq2⟩ : ∃ x, E'.acked = x := ⟨_, rfl⟩
            obtain ⟨r2, hr2⟩ : ∃ x, E'.received = x := ⟨_, rfl⟩
            obtain ⟨K2, hK2⟩ : ∃ x, E'.kept.length = x := ⟨_, rfl⟩
            obtain ⟨N2, hN2⟩ : ∃ x, E'.early.length = x := ⟨_, rfl⟩
            rw [hs2, hq2, hr2, hK2, hN2]
            rw [hK2, hN2] at hW5
            have hz5 := (hk5.block wr.heap.size (by simp) (fun hm => by have := hol.out _ hm; omega)).trans (heap_alloc_new wr _)
            have hbx5 := (hk5.block bx (by simp; omega) (fun hm => (hown.out bx hm).2 rfl)).trans ((((Keeps.refl [] wr).alloc zEnd).drew.block bx plt (by simp)).trans hbx.out)
            have hsz5 := hk5.size
            obtain ⟨z0, z1, z2, z3, z4, zf, zlt⟩ := cells5 hz5
            have hfin := set5_all (w := w5) hz5 (by simp [noB]) (.int .i64 s2) (.int .i64 q2) (.slice ak2 K2 ck2) (.int .i64 r2) (.slice ae2 N2 ce2)
            replace hfin := Lib.hid hfin
            replace hs2 := Lib.hid hs2
            replace hq2 := Lib.hid hq2
            replace hr2 := Lib.hid hr2
            replace hK2 := Lib.hid hK2
            replace hN2 := Lib.hid hN2
            replace hbx5 := Lib.hid hbx5
            replace hz5 := Lib.hid hz5
            replace hW5 := Lib.hid hW5
            (repeat (apply Free.cw_pure rfl rfl; (intro w'; go_simp <;> exact rfl); go_frame))
            refine Free.cw_loud rfl rfl (fun K hK => ?_)
            go_wp2
            refine hK _ _ rfl (Free.KeepsP.of hfin.out.2.1 (fun b hb => .inr ⟨trivial, by simp at hb; omega⟩)) ?_
            clear hK K
            (repeat (apply Free.cw_pure rfl rfl; (intro w'; go_simp <;> exact rfl); go_frame))
            refine Free.cw_nil ?_
            obtain ⟨hy6, g2, g3⟩ := hfin.out
            have hnz : ∀ v : Value, NE w5 v → v.ownBlock ≠ some wr.heap.size := fun v hv e => hv _ e _ _ hz5.out
            have hW6 := Lib.hid (hW5.out.keep1 g2 g3 (fun hm => by
              simp only [own3, List.mem_cons, Option.mem_toList] at hm
              rcases hm with e | e | e
              · have := hol.out bc (by simp [own3]); omega
              · have := hol.out bm (by simp [own3]); omega
              · rcases how5 with h | h
                · have := hol.out wr.heap.size (by simp [own3, ← h, e]); omega
                · have := h _ e; simp at this; omega) (hnz _ hW5.out.nk) (hnz _ hW5.out.ny))
            have hk6 := Lib.hid ((((Keeps.refl [] wr).alloc zEnd).drew.of_nil.trans hk5).fresh g2 (fun b hb => .inr (by simp at hb; omega)))
            have hbx6 := Lib.hid ((g2.block bx (lt_of_block hbx5.out) (by simp; omega)).trans hbx5.out)
            replace how5 : vk'.ownBlock = vk.ownBlock ∨ ∀ b, vk'.ownBlock = some b → wr.heap.size ≤ b := how5.elim .inl (fun h => .inr fun b e => by have := h b e; simp at this; omega)
            obtain ⟨bz, hbz⟩ : ∃ b, wr.heap.size = b := ⟨_, rfl⟩
            have hbzx : bz ≠ bx := by omega
            rw [hbz] at hy6 g2 g3 hW6 hk6 hbx6 ⊢
            clear hfin hW5 hk5 hbx5 hkb5 g2 g3 z0 z1 z2 z3 z4 zf zlt hnz hz5
            generalize (((((w5.setCell ⟨bz, 0, none⟩ (.int .i64 s2)).setCell ⟨bz, 1, none⟩ (.int .i64 q2)).setCell ⟨bz, 2, none⟩ (.slice ak2 K2 ck2)).setCell ⟨bz, 3, none⟩ (.int .i64 r2)).setCell ⟨bz, 4, none⟩ (.slice ae2 N2 ce2)) = w6 at *
            obtain ⟨y0, y1, y2, y3, y4, yf, ylt⟩ := cells5 hy6
            obtain ⟨p0, p1, p2, p3, p4, pf, plt7⟩ := cells5 hbx6.out
            have hfin := set5_all (w := w6) hbx6.out (by simp [noB]) (.int .i64 s2) (.int .i64 q2) (.slice ak2 K2 ck2) (.int .i64 r2) (.slice ae2 N2 ce2)
            replace hfin := Lib.hid hfin
            replace hy6 := Lib.hid hy6
            replace hJ5 := Lib.hid hJ5
            replace how5 := Lib.hid how5
            go_wp2
            go_roundw
            case rel =>
              obtain ⟨g1, g2, g3⟩ := hfin.out
              have hnb : ∀ v : Value, NE w6 v → v.ownBlock ≠ some bx := fun v hv e => hv bx e _ _ hbx6.out
              exact ⟨k + 1, C', E', rfl, by omega, RunI.next hkw.out hbxw plt hown.out hk6.out hW6.out how5.out hn hn5 hJ5.out (Keeps.refl _ _) g2 g3 (by rw [hs2.out, hq2.out, hr2.out]; exact g1) ⟨hnb _ hW6.out.nk, hnb _ hW6.out.ny⟩⟩
            case measure => simp [intOf]; omega
        · obtain ⟨⟨B, n, vk, vke, vee, hW, hn, hbx, hown⟩, hJ, hkw, _⟩ := hI
          obtain ⟨ae, ce, rfl⟩ := hW.re.early.form
          obtain ⟨ak, ck, rfl, _⟩ := hW.re.kept.form
          have hag := hJ.agr
          have hsent := hJ.sent
          have hrecv := hJ.recv
          have hs2 := sameS_c wr B bc bm n vk (.slice ak E.kept.length ck) (.slice ae E.early.length ce) C hW.ch (by rw [hag.kept]; exact hW.re.kept) ⟨_, _, _, rfl⟩ (by omega) hJ.sum (by rw [hag.received]; omega) (fun l hl => by have := hJ.len l hl; omega)
          rw [hag.sent, hag.acked, hag.received] at hs2
          obtain ⟨s, hse⟩ : ∃ s, E.sent = s := ⟨_, rfl⟩
          obtain ⟨q, hae⟩ : ∃ s, E.acked = s := ⟨_, rfl⟩
          obtain ⟨r, hre⟩ : ∃ s, E.received = s := ⟨_, rfl⟩
          obtain ⟨KN, hK⟩ : ∃ s, E.kept.length = s := ⟨_, rfl⟩
          obtain ⟨EN, hEN⟩ : ∃ s, E.early.length = s := ⟨_, rfl⟩
          rw [hse, hae, hre, hK, hEN] at hbx hs2
          obtain ⟨p0, p1, p2, p3, p4, pf, plt⟩ := cells5 hbx
          have hb6 := (hkw.block bx6 hl5 (by simp)).trans hb5s.out
          obtain ⟨y0, y1, y2, y3, y4, yf, ylt⟩ := cells5 hb6
          have hWe := hW5s.out.keeps hkw
          replace hs2 := Lib.hid hs2
          replace hb6 := Lib.hid hb6
          replace hkw := Lib.hid hkw
          replace hWe := Lib.hid hWe
          clear hag hsent hrecv hW hbx hown hJ hse hae hre hK hEN hn
          go_wp2_with fail
          refine hs2.out.mono ?_
          rintro e w10 ⟨rfl, hk10⟩
          have hb7 := (hk10.block bx6 ylt (by simp)).trans hb6.out
          obtain ⟨y0, y1, y2, y3, y4, yf, ylt⟩ := cells5 hb7
          have hWe2 := hWe.out.keeps hk10
          have hk010 := (hk05.out.trans hkw.out).trans hk10
          replace hb7 := Lib.hid hb7
          replace hWe2 := Lib.hid hWe2
          replace hk010 := Lib.hid hk010
          clear hk10 hs2 hb6 hWe p0 p1 p2 p3 p4 pf plt
          go_wp2_with fail
          refine (hsm.out w10 _ bc0 bm0 n0 vk0 hWe2.out.ch hWe2.out.re).mono ?_
          rintro e w11 ⟨rfl, hk11⟩
          go_wp2
          go_ret
          exact ⟨rfl, hk010.out.trans hk11⟩
end Go.Proofs.Ytilmcdieihmiaaa
