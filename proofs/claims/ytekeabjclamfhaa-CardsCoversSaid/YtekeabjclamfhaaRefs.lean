/- The contracts of the reference's functions on lists of numbers. -/
import Derived.Test.YtekeabjclamfhaaCards
import Derived.Test.YtekeabjclamfhaaFree
namespace Go.Proofs.Ytekeabjclamfhaa
open Go.RowKit Go.Maps

abbrev ints (l : List Int) : List Value := l.map (Value.int .i64)
def SlI (w : World) (v : Value) (l : List Int) : Prop := Sl w 1 v l.length (ints l)

theorem ints_one (l : List Int) : ∀ u ∈ ints l, u.oneCell' = true := fun u hu => by obtain ⟨x, _, rfl⟩ := List.mem_map.1 hu; rfl
/-- The two forms that a slice of numbers has. -/
theorem SlI.cases {w : World} {v : Value} {l : List Int} (h : SlI w v l) :
    (l = [] ∧ ∃ a cap, v = .slice a 0 cap ∧ cap ≤ maxLen) ∨
    ∃ g o cap, v = .slice (some ⟨g, o, none⟩) l.length cap ∧ l.length ≤ cap ∧ cap ≤ maxLen ∧ 0 < l.length ∧ g < w.heap.size ∧ ∀ k (hk : k < l.length), w.cell? ⟨g, o + k, none⟩ = some (.int .i64 l[k]) := by
  obtain ⟨_, a, cap, rfl, h2, h3, _, h4⟩ := h
  by_cases hl : l = []
  · subst hl; exact .inl ⟨rfl, a, cap, rfl, h3⟩
  · have hp : 0 < l.length := List.length_pos_iff.2 hl
    obtain ⟨g, o, rfl, hc⟩ := h4 (by simpa using hp)
    have hcell : ∀ k (hk : k < l.length), w.cell? ⟨g, o + k, none⟩ = some (.int .i64 l[k]) := fun k hk => hc k _ (by simp [hk])
    exact .inr ⟨g, o, cap, rfl, h2, h3, hp, lt_of_cell (hcell 0 hp), hcell⟩

theorem take_succ_eq {l m : List Int} {k : Nat} (h1 : k < l.length) (h2 : k < m.length) (h : l.take k = m.take k) (he : l[k] = m[k]) : l.take (k + 1) = m.take (k + 1) := by
  rw [List.take_succ_eq_append_getElem h1, List.take_succ_eq_append_getElem h2, h, he]

set_option maxHeartbeats 400000 in
theorem same_c (w : World) (va vb : Value) (l m : List Int) (ha : SlI w va l) (hb : SlI w vb m) :
    Calls Try.prog 20 #[va, vb] w fun e w' => e = .returned (.bool (decide (l = m))) ∧ Keeps [] w w' := by
  by_cases hlen : l.length = m.length
  · rcases ha.cases with ⟨rfl, a1, c1, rfl, _⟩ | ⟨g1, o1, c1, rfl, hn1, hm1, hp1, hg1, hc1⟩
    · have hm : m = [] := by simpa using hlen.symm
      subst hm
      obtain ⟨_, a2, c2, rfl, _⟩ := hb
      go_enter Try.func20, Try.ntmps20
      go_wp2
      go_loop [5] (fun i => i = .int .i64 0) (fun i => 0)
      case atStart => rfl
      case round =>
        subst hrel
        go_wp2
        go_ret
        exact ⟨by simp, Keeps.refl _ _⟩
    · rcases hb.cases with ⟨rfl, a2, c2, rfl, _⟩ | ⟨g2, o2, c2, rfl, hn2, hm2, hp2, hg2, hc2⟩
      · simp at hlen; subst hlen; simp at hp1
      · have hlen' : (m.length : Int) = l.length := by omega
        unfold maxLen at hm1
        rw [← hlen]
        go_enter Try.func20, Try.ntmps20
        go_wp2
        go_loopw [5] (fun i wr => ∃ k : Nat, k ≤ l.length ∧ i = .int .i64 k ∧ l.take k = m.take k ∧ ∃ n, wr = w.drewN n) (fun i _ => l.length - (Go.RowKit.intOf i).toNat)
        case atStart => exact ⟨0, by omega, rfl, rfl, 0, rfl⟩
        case round =>
          obtain ⟨k, hk, rfl, ht, n, rfl⟩ := hrel
          replace ht := Lib.hid ht
          by_cases hlt : k < l.length
          · have hlt2 : k < m.length := by omega
            have k1 := hc1 k hlt
            have k2 := hc2 k hlt2
            by_cases he : l[k] = m[k]
            · have hx : (l[k] != m[k]) = false := by simp [he]
              have he' := Lib.hid he
              clear he
              go_wp2
              go_quiet (fail)
              go_wp2
              go_roundw
              case rel => exact ⟨k + 1, by omega, by go_num, take_succ_eq hlt hlt2 ht.out he'.out, n + nq, by simp⟩
              case measure => simp [Go.RowKit.intOf]; omega
            · have hx : (l[k] != m[k]) = true := by simp [he]
              have he' := Lib.hid he
              clear he
              go_wp2
              go_quiet (fail)
              go_wp2
              go_ret
              refine ⟨?_, ((Keeps.refl _ w).drewN n).drewN nq⟩
              have : l ≠ m := fun e => he'.out (by subst e; rfl)
              simp [this]
          · go_wp2
            go_ret
            refine ⟨?_, (Keeps.refl _ w).drewN n⟩
            have : l = m := by
              have := ht.out
              rwa [List.take_of_length_le (by omega), List.take_of_length_le (by omega)] at this
            simp [this]
  · obtain ⟨_, a1, c1, rfl, _⟩ := ha
    obtain ⟨_, a2, c2, rfl, _⟩ := hb
    have hx : ((l.length : Int) != m.length) = true := by simp; omega
    have hne : l ≠ m := fun e => hlen (by rw [e])
    replace hne := Lib.hid hne
    go_enter Try.func20, Try.ntmps20
    go_wp2
    go_ret
    exact ⟨by simp [hne.out], Keeps.refl _ _⟩

set_option maxHeartbeats 400000 in
theorem has_c (w : World) (v : Value) (l : List Int) (a : Int) (h : SlI w v l) (hlen : l.length ≤ 1048576) :
    Calls Try.prog 13 #[.agg #[v], .int .i64 a] w fun e w' => e = .returned (.bool (oldB a && decide (a / 16 ∈ l))) ∧ Keeps [] w w' := by
  have hkeep : Keeps [] w (w.alloc (.cells #[v] 27)) := (Keeps.refl _ w).alloc _
  rcases h.cases with ⟨rfl, a1, c1, rfl, _⟩ | ⟨g1, o1, c1, rfl, hn1, hm1, hp1, hg1, hc1⟩
  · replace hkeep := Lib.hid hkeep
    go_enter Try.func13, Try.ntmps13
    go_wp2
    go_loop [5] (fun i => i = .int .i64 0) (fun i => 0)
    case atStart => rfl
    case round =>
      subst hrel
      go_wp2
      go_ret
      exact ⟨by simp, hkeep.out⟩
  · replace hkeep := Lib.hid hkeep
    by_cases ho : oldB a = true
    · obtain ⟨h0, h1⟩ := oldB_iff.1 ho
      replace ho := Lib.hid ho
      clear h
      go_enter Try.func13, Try.ntmps13
      go_wp2
      go_loop [5] (fun i => ∃ k : Nat, k ≤ l.length ∧ i = .int .i64 k ∧ Hid (∀ j (h : j < l.length), j < k → l[j] ≠ a / 16)) (fun i => l.length - (Go.RowKit.intOf i).toNat)
      case atStart => exact ⟨0, by omega, rfl, fun j _ hj => by omega⟩
      case round =>
        obtain ⟨k, hk, rfl, hno⟩ := hrel
        by_cases hlt : k < l.length
        · have k1 := hc1 k hlt
          by_cases he : l[k] = a / 16
          · have hx : (l[k] == a / 16) = true := by simp [he]
            have he' := Lib.hid he
            clear he
            go_wp2_with (go_at_call 22; refine (oldr_c _ _).mono ?_; rw [ho.out]; rintro e w' ⟨rfl, rfl⟩)
            go_ret
            refine ⟨?_, hkeep.out⟩
            have : a / 16 ∈ l := by rw [← he'.out]; exact List.getElem_mem _
            rw [ho.out]; simp [this]
          · have hx : (l[k] == a / 16) = false := by simp [he]
            have he' := Lib.hid he
            clear he
            go_wp2_with (go_at_call 22; refine (oldr_c _ _).mono ?_; rw [ho.out]; rintro e w' ⟨rfl, rfl⟩)
            go_round
            case rel => exact ⟨k + 1, by omega, by go_num, fun j hj hjk => by
              by_cases e : j = k
              · subst e; exact he'.out
              · exact hno.out j hj (by omega)⟩
            case measure => simp [Go.RowKit.intOf]; omega
        · go_wp2
          go_ret
          refine ⟨?_, hkeep.out⟩
          have : ¬ a / 16 ∈ l := fun hm => by
            obtain ⟨j, hj, e⟩ := List.getElem_of_mem hm
            exact hno.out j hj (by omega) e
          rw [ho.out]; simp [this]
    · have ho : oldB a = false := by simpa using ho
      replace ho := Lib.hid ho
      clear h
      go_enter Try.func13, Try.ntmps13
      go_wp2
      go_loop [5] (fun i => ∃ k : Nat, k ≤ l.length ∧ i = .int .i64 k) (fun i => l.length - (Go.RowKit.intOf i).toNat)
      case atStart => exact ⟨0, by omega, rfl⟩
      case round =>
        obtain ⟨k, hk, rfl⟩ := hrel
        by_cases hlt : k < l.length
        · have k1 := hc1 k hlt
          go_wp2_with (go_at_call 22; refine (oldr_c _ _).mono ?_; rw [ho.out]; rintro e w' ⟨rfl, rfl⟩)
          go_round
          case rel => exact ⟨k + 1, by omega, by go_num⟩
          case measure => simp [Go.RowKit.intOf]; omega
        · go_wp2
          go_ret
          exact ⟨by first | rfl | (rw [ho.out]; rfl), hkeep.out⟩
end Go.Proofs.Ytekeabjclamfhaa
