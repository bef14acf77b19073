/- The walk of the law that the order of the marks does not matter. -/
import Derived.Test.YtekeabjclamfhaaAwake
namespace Go.Proofs.Ytekeabjclamfhaa
open Go.RowKit Go.Maps

theorem asc_ext : ∀ {S T : List Int}, Asc S → Asc T → (∀ x, x ∈ S ↔ x ∈ T) → S = T
  | [], [], _, _, _ => rfl
  | [], y :: t, _, _, h => by have := (h y).2 (by simp); simp at this
  | x :: s, [], _, _, h => by have := (h x).1 (by simp); simp at this
  | x :: s, y :: t, hs, ht, h => by
    obtain ⟨a1, a2⟩ := List.pairwise_cons.1 hs
    obtain ⟨b1, b2⟩ := List.pairwise_cons.1 ht
    have e : x = y := by
      have hx := (h x).1 (by simp)
      have hy := (h y).2 (by simp)
      simp only [List.mem_cons] at hx hy
      rcases hx with hx | hx
      · exact hx
      · rcases hy with hy | hy
        · exact hy.symm
        · have := a1 y hy; have := b1 x hx; omega
    subst e
    congr 1
    refine asc_ext a2 b2 fun z => ⟨fun hz => ?_, fun hz => ?_⟩
    · have h1 := a1 z hz
      have h2 := (h z).1 (by simp [hz])
      simp only [List.mem_cons] at h2
      rcases h2 with rfl | h2
      · omega
      · exact h2
    · have h1 := b1 z hz
      have h2 := (h z).2 (by simp [hz])
      simp only [List.mem_cons] at h2
      rcases h2 with rfl | h2
      · omega
      · exact h2

def SubL (l S : List Int) : Prop := ∀ x ∈ S, ∃ a ∈ l, oldB a = true ∧ a / 16 = x
def HasTo (l S : List Int) (k : Nat) : Prop := ∀ j (h : j < l.length), j < k → oldB l[j] = true → l[j] / 16 ∈ S
def HasFr (l S : List Int) (k : Nat) : Prop := ∀ j (h : j < l.length), k ≤ j → oldB l[j] = true → l[j] / 16 ∈ S
theorem markS_old {a x : Int} {S : List Int} (h : x ∈ S) : x ∈ markS a S := by
  unfold markS; split
  · exact mem_ins.2 (.inr h)
  · exact h
theorem markS_new {a : Int} {S : List Int} (h : oldB a = true) : a / 16 ∈ markS a S := by
  unfold markS; rw [if_pos h]; exact mem_ins.2 (.inl rfl)
theorem sub_mark {l S : List Int} {a : Int} (h : SubL l S) (ha : a ∈ l) : SubL l (markS a S) := by
  unfold markS; split
  · next ho =>
    intro x hx
    rcases mem_ins.1 hx with rfl | hx
    · exact ⟨a, ha, ho, rfl⟩
    · exact h x hx
  · exact h
theorem to_mark {l : List Int} {k : Nat} (hk : k < l.length) (S : List Int) (h : HasTo l S k) : HasTo l (markS l[k] S) (k + 1) := by
  intro j hj hjk ho
  by_cases e : j = k
  · subst e; exact markS_new ho
  · exact markS_old (h j hj (by omega) ho)
theorem fr_mark {l : List Int} {k : Nat} (hk : k < l.length) (S : List Int) (h : HasFr l S (k + 1)) : HasFr l (markS l[k] S) k := by
  intro j hj hjk ho
  by_cases e : j = k
  · subst e; exact markS_new ho
  · exact markS_old (h j hj (by omega) ho)
theorem order_eq {l S T : List Int} (a : Asc S) (b : Asc T) (h1 : SubL l S) (h2 : SubL l T) (h3 : HasTo l S l.length) (h4 : HasFr l T 0) : decide (S = T) = true := by
  refine decide_eq_true (asc_ext a b fun x => ⟨fun hx => ?_, fun hx => ?_⟩)
  · obtain ⟨c, hc, ho, rfl⟩ := h1 x hx
    obtain ⟨j, hj, rfl⟩ := List.mem_iff_getElem.1 hc
    exact h4 j hj (by omega) ho
  · obtain ⟨c, hc, ho, rfl⟩ := h2 x hx
    obtain ⟨j, hj, rfl⟩ := List.mem_iff_getElem.1 hc
    exact h3 j hj hj ho

set_option maxHeartbeats 4000000 in
theorem order_c (w : World) (v0 : Value) (l : List Int) (v1 : Value) (m : List Int) (h : SlI w v0 l) (hl63 : l.length ≤ maxLen) (_ : ∀ x ∈ l, (Lit.int .i64 x).wf = true)
    (h1 : Sl w 1 v1 m.length (m.map (Value.int .u8))) (hm63 : m.length ≤ maxLen) (hw1 : ∀ x ∈ m, (Lit.int .u8 x).wf = true) :
    Calls Try.prog 8 #[v0, v1] w fun e w' => e = .returned (.bool true) ∧ Keeps [] w w' := by
  obtain ⟨a0, c0, hv0⟩ := h.form
  obtain ⟨a2, c2, hv1, hm2, hq2, hcells⟩ : ∃ a2 c2, v1 = .slice a2 m.length c2 ∧ m.length ≤ c2 ∧ c2 ≤ maxLen ∧ (m = [] ∨ ∃ g o, a2 = some ⟨g, o, none⟩ ∧ ∀ k (hk : k < m.length), w.cell? ⟨g, o + k, none⟩ = some (.int .u8 m[k])) := by
    obtain ⟨_, a, cap, rfl, e2, e3, _, e4⟩ := h1
    refine ⟨a, cap, rfl, e2, e3, ?_⟩
    by_cases hl : m = []
    · exact .inl hl
    · have hp : 0 < m.length := List.length_pos_iff.2 hl
      obtain ⟨g, o, rfl, hc⟩ := e4 (by simpa using hp)
      exact .inr ⟨g, o, rfl, fun k hk => hc k _ (by simp [hk])⟩
  subst hv1
  by_cases hl : 40 < l.length ∨ 40 < m.length
  · subst hv0
    clear h h1 hw1 hcells
    by_cases hl0 : 40 < l.length
    · clear hl
      go_enter Try.func8, Try.ntmps8
      go_wp2_with fail
      refine (awake_c _).mono ?_
      rintro e w2 ⟨rfl, hk⟩
      go_wp2_with fail
      go_ret
      exact ⟨rfl, hk⟩
    · have hl1 : 40 < m.length := by omega
      clear hl
      go_enter Try.func8, Try.ntmps8
      go_wp2_with fail
      refine (awake_c _).mono ?_
      rintro e w2 ⟨rfl, hk⟩
      go_wp2_with fail
      go_ret
      exact ⟨rfl, hk⟩
  · have hl0 : l.length ≤ 40 := by omega
    have hl1 : m.length ≤ 40 := by omega
    clear hv0 hl h1
    rcases h.cases with ⟨rfl, a1, c1, rfl, _⟩ | ⟨g1, o1, c1, rfl, hn1, hm1, hp1, hg1, hc1⟩
    · clear h
      rcases hcells with rfl | ⟨g2, o2, rfl, hcm⟩
      · replace hw1 := Lib.hid hw1
        go_enter Try.func8, Try.ntmps8
        go_wp2_with fail
        refine (new_c _).mono ?_
        rintro e w1 ⟨bt, bm, rfl, hTa, hka, hb1, hb2⟩
        have hla := hTa.lt
        go_wp2_with fail
        refine (new_c _).mono ?_
        rintro e w2 ⟨bu, bn, rfl, hTb, hkb, hb3, hb4⟩
        have hsz := hka.size
        replace hTa := hTa.keep hkb (by simp) (by simp)
        replace hka := hka.trans hkb
        clear hkb
        go_wp2_with fail
        go_loop [31] (fun i => i = .int .i64 0) (fun _ => 0)
        case atStart => rfl
        case round =>
          subst hrel
          have hSa : SubL [] [] := fun x hx => by simp at hx
          have hTo : HasTo [] [] ([] : List Int).length := fun j hj => by simp at hj
          replace hSa := Lib.hid hSa
          replace hTo := Lib.hid hTo
          obtain ⟨S, hS0⟩ : ∃ S : List Int, S = [] := ⟨_, rfl⟩
          clear hSa hTo
          rw [← hS0] at hTa
          replace hS0 := Lib.hid hS0
          go_wp2_with fail
          go_loop [41] (fun i => i = .int .i64 0) (fun _ => 0)
          case atStart => rfl
          case round =>
            subst hrel
            obtain ⟨U, hU0⟩ : ∃ U : List Int, U = [] := ⟨_, rfl⟩
            rw [← hU0] at hTb
            have hSU : decide (S = U) = true := by rw [hS0.out, hU0]; rfl
            replace hSU := Lib.hid hSU
            clear hU0
            go_wp2_with fail
            go_loop [11] (fun i => i = .int .i64 (-1)) (fun _ => 0)
            case atStart => rfl
            case round =>
              subst hrel
              go_wp2_with fail
              refine (cards_c _ bt bm S hTa).mono ?_
              rintro e w4 ⟨va, rfl, hsa, hk4⟩
              replace hTb := hTb.keep hk4 (by simp) (by simp)
              replace hka := hka.trans hk4
              clear hk4
              go_wp2_with fail
              refine (cards_c _ bu bn U hTb).mono ?_
              rintro e w5 ⟨vb, rfl, hsb, hk5⟩
              replace hka := hka.trans hk5
              replace hsa := hsa.keeps hk5
              clear hk5
              go_wp2_with fail
              refine (same_c _ va vb S U hsa hsb).mono ?_
              rw [hSU.out]
              rintro e w6 ⟨rfl, hk6⟩
              replace hka := hka.trans hk6
              clear hk6 hsa hsb
              go_wp2_with fail
              refine (awake_c _).mono ?_
              rintro e w9 ⟨rfl, hk9⟩
              go_wp2_with fail
              go_ret
              exact ⟨rfl, hka.trans hk9⟩
      · replace hw1 := Lib.hid hw1
        replace hcm := Lib.hid hcm
        go_enter Try.func8, Try.ntmps8
        go_wp2_with fail
        refine (new_c _).mono ?_
        rintro e w1 ⟨bt, bm, rfl, hTa, hka, hb1, hb2⟩
        have hla := hTa.lt
        go_wp2_with fail
        refine (new_c _).mono ?_
        rintro e w2 ⟨bu, bn, rfl, hTb, hkb, hb3, hb4⟩
        have hsz := hka.size
        replace hTa := hTa.keep hkb (by simp) (by simp)
        replace hka := hka.trans hkb
        clear hkb
        go_wp2_with fail
        go_loop [31] (fun i => i = .int .i64 0) (fun _ => 0)
        case atStart => rfl
        case round =>
          subst hrel
          have hSa : SubL [] [] := fun x hx => by simp at hx
          have hTo : HasTo [] [] ([] : List Int).length := fun j hj => by simp at hj
          replace hSa := Lib.hid hSa
          replace hTo := Lib.hid hTo
          obtain ⟨S, hS0⟩ : ∃ S : List Int, S = [] := ⟨_, rfl⟩
          clear hSa hTo
          rw [← hS0] at hTa
          replace hS0 := Lib.hid hS0
          go_wp2_with fail
          go_loopw [41] (fun i wr => ∃ (k : Nat), k ≤ m.length ∧ i = .int .i64 k ∧ Tab wr bt bm S ∧ Tab wr bu bn [] ∧ Keeps [] w wr) (fun i _ => m.length - (Go.RowKit.intOf i).toNat)
          case atStart => exact ⟨0, by omega, rfl, hTa, hTb, hka⟩
          case round =>
            clear hTa hTb hka
            obtain ⟨k, hkl, rfl, hTa, hTb, hka⟩ := hrel
            by_cases hlt : k < m.length
            · have k1 := hka.val (hcm.out k hlt)
              generalize hx : m[k] = x at *
              clear hx
              go_wp2_with fail
              go_roundw
              case rel => exact ⟨k + 1, by omega, by go_num, hTa, hTb, hka⟩
              case measure => simp [Go.RowKit.intOf] <;> omega
            · obtain ⟨U, hU0⟩ : ∃ U : List Int, U = [] := ⟨_, rfl⟩
              rw [← hU0] at hTb
              have hSU : decide (S = U) = true := by rw [hS0.out, hU0]; rfl
              replace hSU := Lib.hid hSU
              clear hU0
              go_wp2_with fail
              go_loop [11] (fun i => i = .int .i64 (-1)) (fun _ => 0)
              case atStart => rfl
              case round =>
                subst hrel
                go_wp2_with fail
                refine (cards_c _ bt bm S hTa).mono ?_
                rintro e w4 ⟨va, rfl, hsa, hk4⟩
                replace hTb := hTb.keep hk4 (by simp) (by simp)
                replace hka := hka.trans hk4
                clear hk4
                go_wp2_with fail
                refine (cards_c _ bu bn U hTb).mono ?_
                rintro e w5 ⟨vb, rfl, hsb, hk5⟩
                replace hka := hka.trans hk5
                replace hsa := hsa.keeps hk5
                clear hk5
                go_wp2_with fail
                refine (same_c _ va vb S U hsa hsb).mono ?_
                rw [hSU.out]
                rintro e w6 ⟨rfl, hk6⟩
                replace hka := hka.trans hk6
                clear hk6 hsa hsb
                go_wp2_with fail
                refine (awake_c _).mono ?_
                rintro e w9 ⟨rfl, hk9⟩
                go_wp2_with fail
                go_ret
                exact ⟨rfl, hka.trans hk9⟩
    · clear h
      rcases hcells with rfl | ⟨g2, o2, rfl, hcm⟩
      · replace hw1 := Lib.hid hw1
        go_enter Try.func8, Try.ntmps8
        go_wp2_with fail
        refine (new_c _).mono ?_
        rintro e w1 ⟨bt, bm, rfl, hTa, hka, hb1, hb2⟩
        have hla := hTa.lt
        go_wp2_with fail
        refine (new_c _).mono ?_
        rintro e w2 ⟨bu, bn, rfl, hTb, hkb, hb3, hb4⟩
        have hsz := hka.size
        replace hTa := hTa.keep hkb (by simp) (by simp)
        replace hka := hka.trans hkb
        clear hkb
        go_wp2_with fail
        go_loopw [31] (fun i wr => ∃ (k : Nat) (S : List Int), k ≤ l.length ∧ i = .int .i64 k ∧ Tab wr bt bm S ∧ Tab wr bu bn [] ∧ Keeps [] w wr ∧ SubL l S ∧ HasTo l S k) (fun i _ => l.length - (Go.RowKit.intOf i).toNat)
        case atStart => exact ⟨0, _, by omega, rfl, hTa, hTb, hka, fun x hx => by simp at hx, fun j hj h0 => by omega⟩
        case round =>
          clear hTa hTb hka
          obtain ⟨k, S, hkl, rfl, hTa, hTb, hka, hSa, hTo⟩ := hrel
          by_cases hlt : k < l.length
          · have k1 := hka.val (hc1 k hlt)
            have hst := to_mark hlt S hTo
            have hin : l[k] ∈ l := List.getElem_mem hlt
            generalize hx : l[k] = x at *
            clear hx hTo
            replace hst := Lib.hid hst
            replace hin := Lib.hid hin
            replace hSa := Lib.hid hSa
            go_wp2_with fail
            refine (mark_c x _ bt bm S hTa).mono ?_
            rintro e w3 ⟨rfl, hT3, hk3⟩
            have hTb3 := hTb.keep hk3 (by simp; omega) (by simp; omega)
            go_wp2_with fail
            go_roundw
            case rel => exact ⟨k + 1, _, by omega, by go_num, hT3, hTb3, hka.fresh hk3 (by simp; omega), sub_mark hSa.out hin.out, hst.out⟩
            case measure => simp [Go.RowKit.intOf] <;> omega
          · have hkk : k = l.length := by omega
            rw [hkk] at hTo
            clear hkk
            replace hSa := Lib.hid hSa
            replace hTo := Lib.hid hTo
            go_wp2_with fail
            go_loop [41] (fun i => i = .int .i64 0) (fun _ => 0)
            case atStart => rfl
            case round =>
              subst hrel
              have hSb : SubL l [] := fun x hx => by simp at hx
              replace hSb := Lib.hid hSb
              generalize hU : ([] : List Int) = U at hTb hSb
              clear hU
              go_wp2_with fail
              go_loopw [11] (fun i wr => ∃ (S2 : List Int), ((∃ k : Nat, k < l.length ∧ i = .int .i64 k ∧ HasFr l S2 (k + 1)) ∨ (i = .int .i64 (-1) ∧ HasFr l S2 0)) ∧ Tab wr bt bm S ∧ Tab wr bu bn S2 ∧ Keeps [] w wr ∧ SubL l S2) (fun i _ => (Go.RowKit.intOf i + 1).toNat)
              case atStart => exact ⟨_, .inl ⟨l.length - 1, by omega, by go_num, fun j hj h0 => by omega⟩, hTa, hTb, hka, hSb.out⟩
              case round =>
                clear hTa hTb hka hSb
                obtain ⟨S2, hcase, hTa, hTb, hka, hSb⟩ := hrel
                rcases hcase with ⟨k, hlt, rfl, hFr⟩ | ⟨rfl, hFr⟩
                · have k1 := hka.val (hc1 k hlt)
                  have hst := fr_mark hlt S2 hFr
                  have hin : l[k] ∈ l := List.getElem_mem hlt
                  generalize hx : l[k] = x at *
                  clear hx hFr
                  replace hst := Lib.hid hst
                  replace hin := Lib.hid hin
                  replace hSb := Lib.hid hSb
                  go_wp2_with fail
                  refine (mark_c x _ bu bn S2 hTb).mono ?_
                  rintro e w3 ⟨rfl, hT3, hk3⟩
                  have hTa3 := hTa.keep hk3 (by simp; omega) (by simp; omega)
                  go_wp2_with fail
                  go_roundw
                  case rel =>
                    refine ⟨_, ?_, hTa3, hT3, hka.fresh hk3 (by simp; omega), sub_mark hSb.out hin.out⟩
                    cases k with
                    | zero => exact .inr ⟨by go_num, hst.out⟩
                    | succ k => exact .inl ⟨k, by omega, by go_num, hst.out⟩
                  case measure => simp [Go.RowKit.intOf] <;> omega
                · replace hSb := Lib.hid hSb
                  replace hFr := Lib.hid hFr
                  go_wp2_with fail
                  refine (cards_c _ bt bm S hTa).mono ?_
                  rintro e w4 ⟨va, rfl, hsa, hk4⟩
                  replace hTb := hTb.keep hk4 (by simp) (by simp)
                  replace hka := hka.trans hk4
                  clear hk4
                  go_wp2_with fail
                  refine (cards_c _ bu bn S2 hTb).mono ?_
                  rintro e w5 ⟨vb, rfl, hsb, hk5⟩
                  replace hka := hka.trans hk5
                  replace hsa := hsa.keeps hk5
                  clear hk5
                  go_wp2_with fail
                  refine (same_c _ va vb S S2 hsa hsb).mono ?_
                  rw [order_eq hTa.asc hTb.asc hSa.out hSb.out hTo.out hFr.out]
                  rintro e w6 ⟨rfl, hk6⟩
                  replace hka := hka.trans hk6
                  clear hk6 hsa hsb
                  go_wp2_with fail
                  refine (awake_c _).mono ?_
                  rintro e w9 ⟨rfl, hk9⟩
                  go_wp2_with fail
                  go_ret
                  exact ⟨rfl, hka.trans hk9⟩
      · replace hw1 := Lib.hid hw1
        replace hcm := Lib.hid hcm
        go_enter Try.func8, Try.ntmps8
        go_wp2_with fail
        refine (new_c _).mono ?_
        rintro e w1 ⟨bt, bm, rfl, hTa, hka, hb1, hb2⟩
        have hla := hTa.lt
        go_wp2_with fail
        refine (new_c _).mono ?_
        rintro e w2 ⟨bu, bn, rfl, hTb, hkb, hb3, hb4⟩
        have hsz := hka.size
        replace hTa := hTa.keep hkb (by simp) (by simp)
        replace hka := hka.trans hkb
        clear hkb
        go_wp2_with fail
        go_loopw [31] (fun i wr => ∃ (k : Nat) (S : List Int), k ≤ l.length ∧ i = .int .i64 k ∧ Tab wr bt bm S ∧ Tab wr bu bn [] ∧ Keeps [] w wr ∧ SubL l S ∧ HasTo l S k) (fun i _ => l.length - (Go.RowKit.intOf i).toNat)
        case atStart => exact ⟨0, _, by omega, rfl, hTa, hTb, hka, fun x hx => by simp at hx, fun j hj h0 => by omega⟩
        case round =>
          clear hTa hTb hka
          obtain ⟨k, S, hkl, rfl, hTa, hTb, hka, hSa, hTo⟩ := hrel
          by_cases hlt : k < l.length
          · have k1 := hka.val (hc1 k hlt)
            have hst := to_mark hlt S hTo
            have hin : l[k] ∈ l := List.getElem_mem hlt
            generalize hx : l[k] = x at *
            clear hx hTo
            replace hst := Lib.hid hst
            replace hin := Lib.hid hin
            replace hSa := Lib.hid hSa
            go_wp2_with fail
            refine (mark_c x _ bt bm S hTa).mono ?_
            rintro e w3 ⟨rfl, hT3, hk3⟩
            have hTb3 := hTb.keep hk3 (by simp; omega) (by simp; omega)
            go_wp2_with fail
            go_roundw
            case rel => exact ⟨k + 1, _, by omega, by go_num, hT3, hTb3, hka.fresh hk3 (by simp; omega), sub_mark hSa.out hin.out, hst.out⟩
            case measure => simp [Go.RowKit.intOf] <;> omega
          · have hkk : k = l.length := by omega
            rw [hkk] at hTo
            clear hkk
            replace hSa := Lib.hid hSa
            replace hTo := Lib.hid hTo
            go_wp2_with fail
            go_loopw [41] (fun i wr => ∃ (k : Nat) (U : List Int), k ≤ m.length ∧ i = .int .i64 k ∧ Tab wr bt bm S ∧ Tab wr bu bn U ∧ Keeps [] w wr ∧ SubL l U) (fun i _ => m.length - (Go.RowKit.intOf i).toNat)
            case atStart => exact ⟨0, _, by omega, rfl, hTa, hTb, hka, fun x hx => by simp at hx⟩
            case round =>
              clear hTa hTb hka
              obtain ⟨k, U, hkl, rfl, hTa, hTb, hka, hSb⟩ := hrel
              by_cases hlt : k < m.length
              · have k1 := hka.val (hcm.out k hlt)
                have hwk : 0 ≤ m[k] ∧ m[k] ≤ 255 := by simpa [Lit.wf, IntKind.min, IntKind.max, IntKind.signed, IntKind.bits] using hw1.out _ (List.getElem_mem hlt)
                generalize hx : m[k] = x at *
                clear hx
                obtain ⟨y, rfl⟩ : ∃ y : Nat, x = (y : Int) := ⟨x.toNat, by omega⟩
                have hyl : y % l.length < l.length := Nat.mod_lt _ hp1
                have hye : ((y : Int)).tmod (l.length : Int) = ((y % l.length : Nat) : Int) := rfl
                have k2 := hka.val (hc1 _ hyl)
                have hin : l[y % l.length] ∈ l := List.getElem_mem hyl
                generalize hx : l[y % l.length] = z at *
                clear hx
                generalize hyy : y % l.length = yy at *
                replace hyy := Lib.hid hyy
                replace hin := Lib.hid hin
                replace hSb := Lib.hid hSb
                go_wp2_with fail
                refine (mark_c z _ bu bn U hTb).mono ?_
                rintro e w3 ⟨rfl, hT3, hk3⟩
                have hTa3 := hTa.keep hk3 (by simp; omega) (by simp; omega)
                go_wp2_with fail
                go_roundw
                case rel => exact ⟨k + 1, _, by omega, by go_num, hTa3, hT3, hka.fresh hk3 (by simp; omega), sub_mark hSb.out hin.out⟩
                case measure => simp [Go.RowKit.intOf] <;> omega
              · replace hSb := Lib.hid hSb
                go_wp2_with fail
                go_loopw [11] (fun i wr => ∃ (S2 : List Int), ((∃ k : Nat, k < l.length ∧ i = .int .i64 k ∧ HasFr l S2 (k + 1)) ∨ (i = .int .i64 (-1) ∧ HasFr l S2 0)) ∧ Tab wr bt bm S ∧ Tab wr bu bn S2 ∧ Keeps [] w wr ∧ SubL l S2) (fun i _ => (Go.RowKit.intOf i + 1).toNat)
                case atStart => exact ⟨_, .inl ⟨l.length - 1, by omega, by go_num, fun j hj h0 => by omega⟩, hTa, hTb, hka, hSb.out⟩
                case round =>
                  clear hTa hTb hka hSb
                  obtain ⟨S2, hcase, hTa, hTb, hka, hSb⟩ := hrel
                  rcases hcase with ⟨k, hlt, rfl, hFr⟩ | ⟨rfl, hFr⟩
                  · have k1 := hka.val (hc1 k hlt)
                    have hst := fr_mark hlt S2 hFr
                    have hin : l[k] ∈ l := List.getElem_mem hlt
                    generalize hx : l[k] = x at *
                    clear hx hFr
                    replace hst := Lib.hid hst
                    replace hin := Lib.hid hin
                    replace hSb := Lib.hid hSb
                    go_wp2_with fail
                    refine (mark_c x _ bu bn S2 hTb).mono ?_
                    rintro e w3 ⟨rfl, hT3, hk3⟩
                    have hTa3 := hTa.keep hk3 (by simp; omega) (by simp; omega)
                    go_wp2_with fail
                    go_roundw
                    case rel =>
                      refine ⟨_, ?_, hTa3, hT3, hka.fresh hk3 (by simp; omega), sub_mark hSb.out hin.out⟩
                      cases k with
                      | zero => exact .inr ⟨by go_num, hst.out⟩
                      | succ k => exact .inl ⟨k, by omega, by go_num, hst.out⟩
                    case measure => simp [Go.RowKit.intOf] <;> omega
                  · replace hSb := Lib.hid hSb
                    replace hFr := Lib.hid hFr
                    go_wp2_with fail
                    refine (cards_c _ bt bm S hTa).mono ?_
                    rintro e w4 ⟨va, rfl, hsa, hk4⟩
                    replace hTb := hTb.keep hk4 (by simp) (by simp)
                    replace hka := hka.trans hk4
                    clear hk4
                    go_wp2_with fail
                    refine (cards_c _ bu bn S2 hTb).mono ?_
                    rintro e w5 ⟨vb, rfl, hsb, hk5⟩
                    replace hka := hka.trans hk5
                    replace hsa := hsa.keeps hk5
                    clear hk5
                    go_wp2_with fail
                    refine (same_c _ va vb S S2 hsa hsb).mono ?_
                    rw [order_eq hTa.asc hTb.asc hSa.out hSb.out hTo.out hFr.out]
                    rintro e w6 ⟨rfl, hk6⟩
                    replace hka := hka.trans hk6
                    clear hk6 hsa hsb
                    go_wp2_with fail
                    refine (awake_c _).mono ?_
                    rintro e w9 ⟨rfl, hk9⟩
                    go_wp2_with fail
                    go_ret
                    exact ⟨rfl, hka.trans hk9⟩
end Go.Proofs.Ytekeabjclamfhaa
