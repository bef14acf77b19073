/- Texts that the laws lean on, in the order in which they build. All is delivered. Plain. (For ChannelCompletion.) The law on completion. -/
import Derived.Test.YtilmcdieihmiaaaK8
set_option linter.unusedVariables false
set_option linter.unusedSimpArgs false
namespace Go.Proofs.Ytilmcdieihmiaaa
open Go.RowKit

variable {w : World} {B bp : Nat} {V : PV} {X : PC} {W : Wy} {t m : Nat}
/-- What is on the way to one end. -/
def toW (j : Nat) (W : Wy) : List Pkt := (W.filter (fun p => p.1 == j)).map (·.2)
theorem toW_append (j : Nat) (W1 W2 : Wy) : toW j (W1 ++ W2) = toW j W1 ++ toW j W2 := by simp [toW]
theorem toW_same (k : Nat) (p : Pkt) (W : Wy) : toW k ((k, p) :: W) = p :: toW k W := by simp [toW]
theorem toW_other {k j : Nat} (h : j ≠ k) (p : Pkt) (W : Wy) : toW j ((k, p) :: W) = toW j W := by
  have : k ≠ j := fun e => h e.symm
  simp [toW, this]
theorem wy_split {i k : Nat} {p : Pkt} (h : W[i]? = some (k, p)) : ∃ A D, W = A ++ (k, p) :: D ∧ W.eraseIdx i = A ++ D := by
  obtain ⟨hi, e⟩ := List.getElem?_eq_some_iff.1 h
  refine ⟨W.take i, W.drop (i + 1), ?_, List.eraseIdx_eq_take_drop_succ ..⟩
  rw [← e, List.getElem_cons_drop, List.take_append_drop]
def N2 (X : PC) (W : Wy) : Prop := ∀ k, k < 2 → Need (X.S k) (X.C (1 - k)) (toW (1 - k) W)
def L2 (X : PC) (W : Wy) : Prop := ∀ k, k < 2 → Late (X.C k) (X.S k).length (toW k W)
theorem N2.deliver {k i : Nat} {p : Pkt} {C' : Chan} {outs : List Bytes} {L : List NB} {G : Nat → List Bytes} (hN : N2 X W) (h : St w B bp V X W t m) (hi : W[i]? = some (k, p)) (hd : PktDone (X.C k) C' outs p) :
    N2 { X with C := putF X.C k C', G := G, L := L } (W.eraseIdx i) := by
  obtain ⟨hk, hok⟩ := h.ok _ (List.mem_of_getElem? hi)
  obtain ⟨A, D, e1, e2⟩ := wy_split hi
  intro j hj
  have hn := hN j hj
  rw [e1] at hn
  rw [e2]
  show Need (X.S j) (putF X.C k C' (1 - j)) _
  simp only at hok hk
  by_cases e : 1 - j = k
  · have ej : 1 - k = j := by omega
    rw [e] at hn ⊢
    rw [ej] at hok
    rw [toW_append, toW_same] at hn
    rw [toW_append, putF_same]
    have hdir := h.dir j hj
    rw [e] at hdir
    cases p with
    | data q l => exact hn.data hdir.inv (show (X.S j)[q]? = some l from hok) hd
    | ack a =>
      obtain ⟨rfl, _⟩ := (show C' = (X.C k).ackd a ∧ outs = [] from hd)
      exact hn.ack (ackd_same a).2.1 (ackd_same a).2.2
  · rw [putF_other _ _ e, toW_append]
    rw [toW_append, toW_other e] at hn
    exact hn
theorem L2.deliver {k i : Nat} {p : Pkt} {C' : Chan} {outs : List Bytes} {L : List NB} {G : Nat → List Bytes} (hL : L2 X W) (h : St w B bp V X W t m) (hi : W[i]? = some (k, p)) (hd : PktDone (X.C k) C' outs p) :
    L2 { X with C := putF X.C k C', G := G, L := L } (W.eraseIdx i) := by
  obtain ⟨hk, hok⟩ := h.ok _ (List.mem_of_getElem? hi)
  obtain ⟨A, D, e1, e2⟩ := wy_split hi
  intro j hj
  have hn := hL j hj
  rw [e1] at hn
  rw [e2]
  show Late (putF X.C k C' j) (X.S j).length _
  simp only at hok hk
  by_cases e : j = k
  · subst e
    rw [toW_append, toW_same] at hn
    rw [toW_append, putF_same]
    have hdir := h.dir j hj
    cases p with
    | data q l => exact hn.data (Got.same (show Got (X.C j) (q + 1) l C' outs from hd)).2.1
    | ack a =>
      obtain ⟨rfl, _⟩ := (show C' = (X.C j).ackd a ∧ outs = [] from hd)
      exact hn.ack hdir hok
  · rw [putF_other _ _ e, toW_append]
    rw [toW_append, toW_other e] at hn
    exact hn
theorem toW_mem {j : Nat} {p : Pkt} (h : (j, p) ∈ W) : p ∈ toW j W := by
  simp only [toW, List.mem_map, List.mem_filter]
  exact ⟨(j, p), ⟨h, by simp⟩, rfl⟩
theorem N2.again (h : St w B bp V X W t m) {W' : Wy} (hW : ∀ k, k < 2 → ∀ q ∈ agW X k, q ∈ W') : N2 X W' := fun k hk =>
  (h.dir k hk).need fun i x hx => toW_mem (hW k hk _ (by
    unfold agW
    refine List.mem_append_left _ ?_
    obtain ⟨hi, rfl⟩ := List.getElem?_eq_some_iff.1 hx
    exact List.mem_mapIdx.2 ⟨i, hi, rfl⟩))
theorem N2.all (hN : N2 X []) (h : St w B bp V X W t m) : ∀ k, k < 2 → X.G (1 - k) = X.S k ∧ (X.C (1 - k)).received = (X.S k).length := fun k hk =>
  Need.all (by have := hN k hk; simpa [toW] using this) (h.dir k hk).inv
theorem L2.again (hN : N2 X []) (h : St w B bp V X W t m) {W' : Wy} (hW : ∀ k, k < 2 → ∀ q ∈ agW X k, q ∈ W') : L2 X W' := fun k hk => by
  have h1 := (hN.all h k hk).2
  refine .inr (toW_mem (hW (1 - k) (by omega) _ ?_))
  unfold agW
  refine List.mem_append_right _ ?_
  simp [h1, show 1 - (1 - k) = k by omega]
theorem L2.all (hL : L2 X []) (h : St w B bp V X W t m) : ∀ k, k < 2 → (X.C k).acked = (X.C k).sent ∧ (X.C k).kept = [] := fun k hk =>
  Late.all (by have := hL k hk; simpa [toW] using this) (h.dir k hk)
end Go.Proofs.Ytilmcdieihmiaaa

namespace Go.Proofs.Ytilmcdieihmiaaa
open Go.RowKit

variable {w : World} {B bp : Nat} {V : PV} {X : PC} {W : Wy} {t m : Nat}
theorem u8lt (x : UInt8) : x.toNat < 256 := x.toNat_lt
/-- again, at any time. -/
theorem againS_c (k : Nat) (h : St w B bp V X W t m) (hk : k < 2) (ht : t ≤ 1000) (hW : W.length ≤ 1000000) (hB : B ≤ w.heap.size) :
    Calls Try.prog 21 #[.pointer (some ⟨bp, 0, none⟩), .int .i64 k] w fun e w' => e = .returned (.tuple #[]) ∧ ∃ V', St w' B bp V' { X with L := wyL (W ++ agW X k) } (W ++ agW X k) t m ∧ ∃ S, Keeps S w w' ∧ ∀ b ∈ S, B ≤ b := by
  obtain ⟨bs, bk, bs2, ba, bl⟩ := h.bounds hk
  have hWL : X.L.length = W.length := by rw [h.way, wyL_len]
  refine (again_c k h.pm hk hB (by omega) (fun l' hl' => by have := bl l' hl'; omega) (by omega) (by omega)).mono ?_
  rintro e w2 ⟨x, rfl, hP, hk2, how⟩
  have e2 : X.L ++ toK k (dgF (X.C k).acked (X.C k).kept ++ [ackB (X.C k).received]) = wyL (W ++ agW X k) := by rw [← agW_L, h.way]; simp [wyL]
  rw [e2] at hP
  refine ⟨rfl, { V with vw := x }, h.wayP rfl rfl rfl (fun q hq => ?_) hP, bp :: V.vw.ownBlock.toList, hk2, fun b hb => ?_⟩
  · rcases List.mem_append.1 hq with hq | hq
    · exact .inl hq
    · exact .inr (h.agOk hk q hq)
  · simp at hb
    rcases hb with rfl | hb
    · exact h.geO 0 _ rfl
    · exact h.geO 11 _ hb
/-- What the rounds of the law begin and end with. -/
def CplI (w wr : World) (b bp u : Nat) : Prop := ∃ V X W t m, St wr b bp V X W t m ∧ t ≤ 40 ∧ m + W.length ≤ 1720 + 82 * u ∧ (1 ≤ u → W = [] ∧ N2 X []) ∧ (2 ≤ u → L2 X []) ∧ Keeps [] w wr
/-- .. and each delivery. -/
def CplD (w wr : World) (b bp u M j : Nat) : Prop := ∃ V X W t m, St wr b bp V X W t m ∧ t ≤ 40 ∧ m + W.length ≤ 1720 + 82 * (u + 1) ∧ N2 X W ∧ (1 ≤ u → L2 X W) ∧ j + W.length = M ∧ Keeps [] w wr
theorem agW_len2 (h : St w B bp V X W t m) {k : Nat} (hk : k < 2) : (agW X k).length ≤ t + 1 := by
  rw [agW_len]; have := (h.bounds hk).2.1; omega
set_option maxRecDepth 100000 in
set_option maxHeartbeats 4000000 in
theorem cpl_c (w : World) (v0 v1 : Value) (L : List ActV) (lo : Bytes) (h : SActs w v0 L) (hlo : SlB w v1 lo) :
    Calls Try.prog 6 #[v0, v1] w fun e w' => e = .returned (.bool true) ∧ Keeps [] w w' := by
  obtain ⟨a, c, rfl, _⟩ := Gen.SlR.form h
  obtain ⟨a1, c1, rfl⟩ := hlo.form
  obtain ⟨N, hN⟩ : ∃ N, L.length = N := ⟨_, rfl⟩
  obtain ⟨M, hM⟩ : ∃ N, lo.length = N := ⟨_, rfl⟩
  rw [hN] at h ⊢
  rw [hM] at hlo ⊢
  replace h := Lib.hid h
  replace hlo := Lib.hid hlo
  replace hN := Lib.hid hN
  replace hM := Lib.hid hM
  go_enter Try.func6, Try.ntmps6
  go_wp2_with fail
  refine (awake_c _).mono ?_
  rintro e w1 ⟨rfl, hk1⟩
  go_wp2_with fail
  refine (large_c _ _ L (h.out.keeps hk1)).mono ?_
  rintro e w2 ⟨rfl, hk2⟩
  have hk02 := hk1.trans hk2
  clear hk1 hk2
  cases hb : lgB L with
  | true =>
    clear hb
    go_wp2
    go_ret
    exact ⟨rfl, hk02⟩
  | false =>
    obtain ⟨hl, hd⟩ := lgB_false hb
    clear hb
    by_cases hMl : (200 : Int) < M
    · go_wp2
      go_ret
      exact ⟨rfl, hk02⟩
    · go_wp2_with fail
      refine (play_c _ _ L (h.out.keeps hk02) hl hd).mono ?_
      rintro e w3 ⟨bp, V, X, W, rfl, hS, hW, hk3⟩
      have hk03 := hk02.trans hk3
      have hsz := hk02.size
      have hb3 := (hk02.trans hk3).size
      have hb3' := hk3.size
      have hI0 : Hid (CplI w w3 w2.heap.size bp 0) := ⟨V, X, W, L.length, L.length, hS, by omega, by omega, by omega, by omega, hk03⟩
      generalize w2.heap.size = b at *
      clear hS hW hk3 hk03
      replace hd := Lib.hid hd
      go_wp2
      go_loopw [7] (fun i wr => ∃ u : Nat, i = .int .i64 u ∧ u ≤ 2 ∧ b ≤ wr.heap.size ∧ CplI w wr b bp u) (fun i _ => 2 - (intOf i).toNat)
      case atStart => exact ⟨0, rfl, by omega, hb3', hI0.out⟩
      case round =>
        obtain ⟨u, rfl, hu, hbr, V, X, W, t, m, hS, ht, hmW, h1, h2, hkw⟩ := hrel
        clear hI0
        by_cases hlt : u < 2
        · go_wp2_with fail
          refine (againS_c 0 hS (by omega) (by omega) (by omega) hbr).mono ?_
          rintro e w4 ⟨rfl, V4, hS4, S4, hk4, hB4⟩
          have hkw4 : Keeps [] w w4 := hkw.fresh hk4 (fun x hx => .inr (by have := hB4 x hx; omega))
          have hb4 := hk4.size
          have hl0 := agW_len2 hS (k := 0) (by omega)
          have hl1 := agW_len2 hS (k := 1) (by omega)
          replace hS := Lib.hid hS
          replace hS4 := Lib.hid hS4
          replace hkw4 := Lib.hid hkw4
          go_wp2_with fail
          refine (againS_c 1 hS4.out (by omega) (by omega) (by rw [List.length_append]; omega) (by omega)).mono ?_
          rintro e w5 ⟨rfl, V5, hS5, S5, hk5, hB5⟩
          have hkw5 : Keeps [] w w5 := hkw4.out.fresh hk5 (fun x hx => .inr (by have := hB5 x hx; omega))
          have hb5 := hk5.size
          have hag : agW { X with L := wyL (W ++ agW X 0) } 1 = agW X 1 := rfl
          rw [hag] at hS5
          have hsub : ∀ k, k < 2 → ∀ q ∈ agW X k, q ∈ W ++ agW X 0 ++ agW X 1 := fun k hk q hq => by
            rcases (show k = 0 ∨ k = 1 by omega) with rfl | rfl <;> simp [hq]
          have hN5 : N2 { X with L := wyL (W ++ agW X 0 ++ agW X 1) } (W ++ agW X 0 ++ agW X 1) := N2.again hS5 hsub
          have hL5 : 1 ≤ u → L2 { X with L := wyL (W ++ agW X 0 ++ agW X 1) } (W ++ agW X 0 ++ agW X 1) := fun hu1 => L2.again (X := { X with L := wyL (W ++ agW X 0 ++ agW X 1) }) (show N2 { X with L := wyL (W ++ agW X 0 ++ agW X 1) } [] from (h1 hu1).2) hS5 hsub
          obtain ⟨WM, hWM⟩ : ∃ n, (W ++ agW X 0 ++ agW X 1).length = n := ⟨_, rfl⟩
          have hD0 : Hid (CplD w w5 b bp u WM 0) := ⟨V5, { X with L := wyL (W ++ agW X 0 ++ agW X 1) }, W ++ agW X 0 ++ agW X 1, t, m, hS5, ht, by rw [List.length_append, List.length_append]; omega, hN5, hL5, by omega, hkw5⟩
          have hWMb : WM ≤ 4000 := by rw [← hWM, List.length_append, List.length_append]; omega
          have hb5' : b ≤ w5.heap.size := by omega
          clear hS hS4 hS5 hN5 hL5 hsub hag hkw4 hkw5 hWM h1 h2 hkw hk4 hk5 hB4 hB5 hl0 hl1
          go_wp2
          go_loopw [8] (fun i wr => ∃ j : Nat, i = .int .i64 j ∧ j ≤ WM ∧ b ≤ wr.heap.size ∧ CplD w wr b bp u WM j) (fun i _ => WM - (intOf i).toNat)
          case atStart => exact ⟨0, rfl, by omega, hb5', hD0.out⟩
          case round =>
            obtain ⟨j, rfl, hj, hbr, V, X, W, t, m, hS, ht, hmW, hN, hLt, hjW, hkw⟩ := hrel
            clear hD0
            obtain ⟨av, cv, hvw⟩ := hS.pm.way.se.form
            obtain ⟨NW, hNW⟩ : ∃ n, W.length = n := ⟨_, rfl⟩
            rw [hS.way, wyL_len, hNW] at hvw
            have cw := hS.pm.cells.2.2.1
            rw [hvw] at cw
            by_cases hz : (0 : Int) < NW
            · have step : ∀ (wq : World) (n : Nat), n < 256 → Keeps [] wr wq → Calls Try.prog 22 #[.pointer (some ⟨bp, 0, none⟩), .agg #[.int .u8 2, .int .u8 n, .slice none 0 0]] wq fun e w' => e = .returned (.bool true) ∧ CplD w w' b bp u WM (j + 1) ∧ b ≤ w'.heap.size := fun wq n hn hkq => by
                have hbq := hkq.size
                refine (act_deliver n _ [] (hS.keeps hkq) hn (SlB.nil _) (by omega) (by omega) (by omega) (by omega)).mono ?_
                rintro e w' (⟨e0, _⟩ | ⟨p, hp, V', C', outs, rfl, hS', hdone, S, hk', hB'⟩)
                · rw [e0] at hNW; simp at hNW; omega
                · have hlen : (W.eraseIdx (n % W.length)).length = W.length - 1 := List.length_eraseIdx_of_lt (List.getElem?_eq_some_iff.1 hp).1
                  have hbk := hk'.size
                  exact ⟨rfl, ⟨V', { X with C := putF X.C p.1 C', G := putF X.G p.1 (X.G p.1 ++ outs), L := wyL (W.eraseIdx (n % W.length)) }, W.eraseIdx (n % W.length), t, m + 1, hS', ht, by omega, hN.deliver hS hp hdone, fun h => (hLt h).deliver hS hp hdone, by omega, (hkw.trans hkq).fresh hk' (fun x hx => .inr (by have := hB' x hx; omega))⟩, by omega⟩
              replace step := Lib.hid step
              by_cases hjM : (j : Int) < M
              · rcases hlo.out.cases with ⟨e0, _⟩ | ⟨g, o, cp, hv, _, _, _, _, hcell⟩
                · rw [e0] at hM; have := hM.out; simp at this; omega
                · cases hv
                  have hjl0 : j < lo.length := by rw [hM.out]; omega
                  have hc := hkw.val (hcell j hjl0)
                  generalize (lo[j]'hjl0) = x at *
                  have hx := u8lt x
                  clear hcell
                  go_wp2_with fail
                  refine (step.out _ x.toNat hx (Keeps.refl _ _)).mono ?_
                  rintro e w6 ⟨rfl, ⟨V6, X6, W6, t6, m6, hS6, ht6, hm6, hN6, hL6, hj6, hk6⟩, hb6⟩
                  have hpm := hS6.pm
                  have hdir := hS6.dir
                  have hlen := hS6.len
                  go_wp2_with fail
                  refine (sound_c hpm hdir (fun k hk => by have := hlen k hk; omega)).mono ?_
                  rintro e w7 ⟨rfl, hk7⟩
                  have hb7 := hk7.size
                  have hD7 : Hid (CplD w w7 b bp u WM (j + 1)) := ⟨V6, X6, W6, t6, m6, hS6.keeps hk7, ht6, hm6, hN6, hL6, hj6, hk6.trans hk7⟩
                  have hjl : j + 1 ≤ WM := by omega
                  have hb7' : b ≤ w7.heap.size := by omega
                  clear hS hS6 hN hN6 hLt hL6 hkw hk6 hk7 hpm hdir hlen hj6 hm6
                  go_wp2
                  go_roundw
                  case rel => exact ⟨j + 1, rfl, hjl, hb7', hD7.out⟩
                  case measure => simp [intOf]; omega
              · go_wp2_with fail
                refine (step.out _ 0 (by omega) (Keeps.refl _ _)).mono ?_
                rintro e w6 ⟨rfl, ⟨V6, X6, W6, t6, m6, hS6, ht6, hm6, hN6, hL6, hj6, hk6⟩, hb6⟩
                have hpm := hS6.pm
                have hdir := hS6.dir
                have hlen := hS6.len
                go_wp2_with fail
                refine (sound_c hpm hdir (fun k hk => by have := hlen k hk; omega)).mono ?_
                rintro e w7 ⟨rfl, hk7⟩
                have hb7 := hk7.size
                have hD7 : Hid (CplD w w7 b bp u WM (j + 1)) := ⟨V6, X6, W6, t6, m6, hS6.keeps hk7, ht6, hm6, hN6, hL6, hj6, hk6.trans hk7⟩
                have hjl : j + 1 ≤ WM := by omega
                have hb7' : b ≤ w7.heap.size := by omega
                clear hS hS6 hN hN6 hLt hL6 hkw hk6 hk7 hpm hdir hlen hj6 hm6
                go_wp2
                go_roundw
                case rel => exact ⟨j + 1, rfl, hjl, hb7', hD7.out⟩
                case measure => simp [intOf]; omega
            · have hW0 : W = [] := List.length_eq_zero_iff.1 (by omega)
              subst hW0
              have hI : Hid (CplI w wr b bp (u + 1)) := ⟨V, X, [], t, m, hS, ht, hmW, fun _ => ⟨rfl, hN⟩, fun h => hLt (by omega), hkw⟩
              clear hS hN hLt hkw hmW
              go_wp2
              go_roundw
              case rel => exact ⟨u + 1, rfl, by omega, hbr, hI.out⟩
              case measure => simp [intOf]; omega
        · have hu2 : ¬ (u : Int) < 2 := by omega
          obtain ⟨rfl, hN2⟩ := h1 (by omega)
          have hall := hN2.all hS
          have hack := (h2 (by omega)).all hS
          replace hall := Lib.hid hall
          replace hack := Lib.hid hack
          replace hS := Lib.hid hS
          clear h1 h2 hN2
          have hkw0 := Lib.hid hkw
          generalize hwr : wr = w9 at *
          clear hwr hkw
          go_wp2
          go_loopw [10] (fun i wr => ∃ j : Nat, i = .int .i64 j ∧ j ≤ 2 ∧ Keeps [] w9 wr) (fun i _ => 2 - (intOf i).toNat)
          case atStart => exact ⟨0, rfl, by omega, Keeps.refl _ _⟩
          case round =>
            obtain ⟨j, rfl, hj, hkw⟩ := hrel
            by_cases hlt2 : j < 2
            · have hP := hS.out.pm.keeps hkw
              obtain ⟨m', hm'⟩ : ∃ m', m' = 1 - j := ⟨_, rfl⟩
              have hm2 : m' < 2 := by omega
              have hwr : IntKind.i64.wrap (1 - (j : Int)) = (m' : Int) := by rw [show (1 : Int) - j = m' by omega]; exact IntWalk.i64_in _ (by omega)
              obtain ⟨ca, cS, _⟩ := hP.cellE hlt2
              obtain ⟨_, _, cG⟩ := hP.cellE hm2
              obtain ⟨hGS, _⟩ := hall.out j hlt2
              rw [← hm'] at hGS
              obtain ⟨hA1, hA2⟩ := hack.out j hlt2
              have hCa := hP.ch j hlt2
              obtain ⟨aS, cS', hvS⟩ := (hP.sent j hlt2).form
              obtain ⟨aG, cG', hvG⟩ := (hP.got m' hm2).form
              obtain ⟨bs, bk, bs2, br, _⟩ := hS.out.bounds hlt2
              obtain ⟨NS, hNS⟩ : ∃ n, (X.S j).length = n := ⟨_, rfl⟩
              rw [hGS, hNS] at hvG
              rw [hNS] at hvS
              rw [hvS] at cS
              rw [hvG] at cG
              obtain ⟨ba, hba⟩ : ∃ b, V.bc j = b := ⟨_, rfl⟩
              rw [hba] at ca hCa
              have hmI : (m' : Int) < 2 := by omega
              obtain ⟨Q, hQ⟩ : ∃ q, (X.C j).sent = q := ⟨_, rfl⟩
              rw [hQ] at hA1
              clear hm' bk
              replace hP := Lib.hid hP
              replace hCa := Lib.hid hCa
              replace hGS := Lib.hid hGS
              replace hNS := Lib.hid hNS
              replace hA1 := Lib.hid hA1
              replace hA2 := Lib.hid hA2
              replace hQ := Lib.hid hQ
              replace hba := Lib.hid hba
              replace hvS := Lib.hid hvS
              replace hvG := Lib.hid hvG
              replace hkw := Lib.hid hkw
              go_wp2
              refine Free.wp_region_chain (fun i => i == 23 || i == 34 || i == 41 || i == 51) (fun i => true) (fun j b => False) (by kernel_rfl) (by kernel_rfl) (by kernel_rfl) ?_
              (repeat (first | (apply Free.cw_pureW rfl rfl; (intro w'; go_simp <;> exact rfl); go_frame) | (apply Free.cw_steadyW rfl rfl rfl; (intro w' hS; have q0 := Free.sx_cell hS cS (fun _ _ hT => hT); have q1 := Free.sx_cell hS cG (fun _ _ hT => hT); have q2 := Free.sx_cell hS ca (fun _ _ hT => hT); go_simp <;> exact rfl); go_frame) | (refine Free.cw_skip rfl ?_; go_frame)))
              refine Free.cw_loudW rfl rfl (fun K hK => ?_)
              go_wp2_with fail
              refine (unacked_c _ _ ba _ _ _ _ (hCa.out.keeps ((Keeps.refl [] wr).drew)) (by rw [hA2.out]; simp) (by rw [hA2.out]; simp)).mono ?_
              rintro e w10 ⟨v1, rfl, hL1, hk1⟩
              refine hK _ _ rfl (Free.KeepsP.of hk1 (by simp)) ?_
              clear hK K
              rw [hA2.out] at hL1
              obtain ⟨a2, c2, rfl⟩ : ∃ a c, v1 = .slice a 0 c := by simpa using hL1.form
              have hkr1 : Keeps [] wr w10 := ((Keeps.refl [] wr).drew).trans hk1
              clear hk1 hL1
              (repeat (first | (apply Free.cw_pureW rfl rfl; (intro w'; go_simp <;> exact rfl); go_frame) | (apply Free.cw_steadyW rfl rfl rfl; (intro w' hS; have q0 := Free.sx_cell hS cS (fun _ _ hT => hT); have q1 := Free.sx_cell hS cG (fun _ _ hT => hT); have q2 := Free.sx_cell hS ca (fun _ _ hT => hT); go_simp <;> exact rfl); go_frame) | (refine Free.cw_skip rfl ?_; go_frame)))
              refine Free.cw_loudW rfl rfl (fun K hK => ?_)
              go_wp2_with fail
              refine (acked_c _ _ ba _ _ _ _ (hCa.out.keeps hkr1)).mono ?_
              rintro e _ ⟨rfl, rfl⟩
              refine hK _ _ rfl (Free.KeepsP.refl _ _) ?_
              clear hK K
              rw [hA1.out]
              (repeat (first | (apply Free.cw_pureW rfl rfl; (intro w'; go_simp <;> exact rfl); go_frame) | (apply Free.cw_steadyW rfl rfl rfl; (intro w' hS; have q0 := Free.sx_cell hS cS (fun _ _ hT => hT); have q1 := Free.sx_cell hS cG (fun _ _ hT => hT); have q2 := Free.sx_cell hS ca (fun _ _ hT => hT); go_simp <;> exact rfl); go_frame) | (refine Free.cw_skip rfl ?_; go_frame)))
              refine Free.cw_loudW rfl rfl (fun K hK => ?_)
              go_wp2_with fail
              refine (sent_c _ _ ba _ _ _ _ (hCa.out.keeps hkr1)).mono ?_
              rintro e _ ⟨rfl, rfl⟩
              refine hK _ _ rfl (Free.KeepsP.refl _ _) ?_
              clear hK K
              rw [hQ.out]
              (repeat (first | (apply Free.cw_pureW rfl rfl; (intro w'; go_simp <;> exact rfl); go_frame) | (apply Free.cw_steadyW rfl rfl rfl; (intro w' hS; have q0 := Free.sx_cell hS cS (fun _ _ hT => hT); have q1 := Free.sx_cell hS cG (fun _ _ hT => hT); have q2 := Free.sx_cell hS ca (fun _ _ hT => hT); go_simp <;> exact rfl); go_frame) | (refine Free.cw_skip rfl ?_; go_frame)))
              refine Free.cw_loudW rfl rfl (fun K hK => ?_)
              go_wp2_with fail
              refine (datagrams_c _ _ ba _ _ _ _ (hCa.out.keeps hkr1) (by omega) (by rw [hA2.out]; simp)).mono ?_
              rintro e w11 ⟨v3, rfl, hL3, hk3⟩
              refine hK _ _ rfl (Free.KeepsP.of hk3 (by simp)) ?_
              clear hK K
              rw [hA2.out] at hL3
              obtain ⟨a3, c3, rfl⟩ : ∃ a c, v3 = .slice a 0 c := by simpa [dgF] using hL3.form
              have hkr3 := hkr1.trans hk3
              clear hk3 hkr1 hL3
              (repeat (first | (apply Free.cw_pureW rfl rfl; (intro w'; go_simp <;> exact rfl); go_frame) | (apply Free.cw_steadyW rfl rfl rfl; (intro w' hS; have q0 := Free.sx_cell hS cS (fun _ _ hT => hT); have q1 := Free.sx_cell hS cG (fun _ _ hT => hT); have q2 := Free.sx_cell hS ca (fun _ _ hT => hT); go_simp <;> exact rfl); go_frame) | (refine Free.cw_skip rfl ?_; go_frame)))
              refine Free.cw_nil ?_
              have hkw1 := Lib.hid (hkw.out.trans hkr3)
              clear hkr3
              go_wp2
              go_roundw
              case rel => exact ⟨j + 1, rfl, by omega, hkw1.out⟩
              case measure => simp [intOf]; omega
            · go_wp2
              go_ret
              exact ⟨rfl, hkw0.out.trans hkw⟩
end Go.Proofs.Ytilmcdieihmiaaa
