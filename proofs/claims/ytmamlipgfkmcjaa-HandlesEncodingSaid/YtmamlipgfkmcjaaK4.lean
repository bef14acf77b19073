/- Texts that the laws lean on, in the order in which they build. The law's step and run. The digits of a number to the base 256, and its encoding on the wire. No program. (XWire, of a program without bytes.Clone.) The contracts of package wire's writers of bytes. Package handles: Encode. The law's awake. The walks of the laws Operations, Lists, Missing. The operations among a law's arguments, opened; a number, a truth value, a list of words. -/
import Derived.Test.YtmamlipgfkmcjaaK3
import Derived.Test.YtmamlipgfkmcjaaRows
set_option linter.unusedVariables false
set_option linter.unusedSimpArgs false
namespace Go.Proofs.Ytmamlipgfkmcjaa
open Go.RowKit

structure OpV where
  k : Nat
  h : Int
  x : Nat
def OpV.ok (o : OpV) : Prop := o.k < 256 ∧ W64 o.h ∧ o.x < 18446744073709551616
abbrev opV (k : Nat) (h : Int) (x : Nat) : Value := .agg #[.int .u8 k, .int .i64 h, .int .u64 x]
def shO : Sh OpV := ⟨3, fun o => [.int .u8 o.k, .int .i64 o.h, .int .u64 o.x], fun _ => rfl, by decide, fun x u hu => by simp at hu; rcases hu with rfl | rfl | rfl <;> rfl⟩
theorem elemO {w : World} {v : Value} {L : List OpV} (h : shO.R w v L) {k : Nat} (hk : k < L.length) : ∃ g o c, v = .slice (some ⟨g, o, none⟩) L.length c ∧ w.cell? ⟨g, o + k * 3, none⟩ = some (.int .u8 L[k].k) ∧ w.cell? ⟨g, o + k * 3 + 1, none⟩ = some (.int .i64 L[k].h) ∧ w.cell? ⟨g, o + k * 3 + 2, none⟩ = some (.int .u64 L[k].x) := by
  obtain ⟨g, o, c, e, hc⟩ := h.elem hk
  exact ⟨g, o, c, e, hc 0 _ rfl, hc 1 _ rfl, hc 2 _ rfl⟩
def StepR (k : Nat) (h : Int) (x : Nat) (L L' : List Hn) : Prop :=
  (k ≤ 1 ∧ ∃ n, Free L n ∧ L' = MapL.ins n (x, k == 1) L) ∨ (k = 2 ∧ L' = setL h x L) ∨ (k = 3 ∧ L' = dropL h L) ∨ (3 < k ∧ L' = L)
theorem Good.ins {L : List Hn} (g : Good L) {h : Int} {x : Nat} {b : Bool} (hw : W64 h) (hx : x < 18446744073709551616) : Good (MapL.ins h (x, b) L) :=
  ⟨MapL.asc_ins g.asc, fun p hp => by rcases MapL.mem_ins hp with rfl | hp; exact hw; exact g.w p hp, fun p hp => by rcases MapL.mem_ins hp with rfl | hp; exact hx; exact g.u p hp⟩
theorem Good.del {L : List Hn} (g : Good L) {h : Int} : Good (MapL.del h L) :=
  ⟨MapL.asc_del g.asc, fun p hp => g.w p (List.mem_filter.1 hp).1, fun p hp => g.u p (List.mem_filter.1 hp).1⟩
theorem len_ins (k : Int) (v : Nat × Bool) : ∀ (L : List Hn), (MapL.ins k v L).length ≤ L.length + 1
  | [] => by simp [MapL.ins]
  | (x, u) :: r => by
    unfold MapL.ins
    split
    · simp
    · split
      · simp
      · have := len_ins k v r
        simp; omega
theorem Free.le {L : List Hn} {n : Int} (f : Free L n) : n ≤ L.length + 1 := by
  have h1 := f.pos
  have := used_len (n - 1).toNat L (fun i h1 h2 => f.used i h1 (by omega))
  omega
theorem StepR.good {k x : Nat} {h : Int} {L L' : List Hn} (s : StepR k h x L L') (g : Good L) (hh : W64 h) (hx : x < 18446744073709551616) (hl : L.length < 1000000) : Good L' ∧ L'.length ≤ L.length + 1 := by
  rcases s with ⟨_, n, hf, rfl⟩ | ⟨_, rfl⟩ | ⟨_, rfl⟩ | ⟨_, rfl⟩
  · have := hf.le
    have := hf.pos
    exact ⟨g.ins (w64 (by omega) (by omega)) hx, len_ins _ _ _⟩
  · unfold setL
    split
    · exact ⟨g.ins hh hx, len_ins _ _ _⟩
    · exact ⟨g, by omega⟩
  · unfold dropL
    split
    · exact ⟨g.del, Nat.le_trans (List.length_filter_le _ L) (by omega)⟩
    · exact ⟨g, by omega⟩
  · exact ⟨g, by omega⟩
def StepPost (w : World) (bt bm : Nat) (k : Nat) (h : Int) (x : Nat) (L : List Hn) (e : Ending) (w' : World) : Prop :=
  ∃ v' L', e = .returned (.tuple #[v', .bool true]) ∧ StepR k h x L L' ∧ TM w' bt bm L' ∧ shE.R w' v' L' ∧ Keeps [bm] w w'
set_option maxRecDepth 100000 in
set_option maxHeartbeats 4000000 in
theorem step_c (w : World) (bt bm : Nat) (L : List Hn) (v : Value) (k : Nat) (h : Int) (x : Nat) (t : TM w bt bm L) (hr : shE.R w v L) (hG : Good L) (hL : L.length < 900000) (hk : k < 256) (hh : W64 h) (hx : x < 18446744073709551616) :
    Calls Try.prog 30 #[.pointer (some ⟨bt, 0, none⟩), v, opV k h x] w (StepPost w bt bm k h x L) := by
  have hka := (Keeps.refl [] w).alloc (.cells #[.int .u8 k, .int .i64 h, .int .u64 x] 65)
  have hbx := heap_alloc_new w (.cells #[.int .u8 k, .int .i64 h, .int .u64 x] 65)
  have htA := t.keeps hka
  have hrA := hr.keeps hka
  have hbm := t.mp.lt
  obtain ⟨X, hX⟩ : ∃ X, w.heap.size = X := ⟨_, rfl⟩
  rw [hX] at hbx hbm
  obtain ⟨W, hW⟩ : ∃ W, w.alloc (.cells #[.int .u8 k, .int .i64 h, .int .u64 x] 65) = W := ⟨_, rfl⟩
  rw [hW] at hka hbx htA hrA
  have c0 := cell_at hbx 0
  have c1 := cell_at hbx 1
  have c2 := cell_at hbx 2
  simp only [List.getElem?_toArray, List.getElem?_cons_zero, List.getElem?_cons_succ] at c0 c1 c2
  replace hka := Lib.hid hka
  replace hbx := Lib.hid hbx
  replace htA := Lib.hid htA
  replace hrA := Lib.hid hrA
  replace hG := Lib.hid hG
  clear t hr
  rcases (show k ≤ 1 ∨ k = 2 ∨ k = 3 ∨ 3 < k by omega) with hk1 | hk2 | hk3 | hk3
  · have hkk : ((k : Int) == 0) = true ∨ (((k : Int) == 0) = false ∧ ((k : Int) == 1) = true) := by
      rcases (show k = 0 ∨ k = 1 by omega) with rfl | rfl
      · exact .inl rfl
      · exact .inr ⟨rfl, rfl⟩
    obtain ⟨b, hb⟩ : ∃ b, ((k : Int) == 1) = b := ⟨_, rfl⟩
    have hbk : (k == 1) = b := by rw [← hb]; rw [Bool.eq_iff_iff]; simp; omega
    replace hbk := Lib.hid hbk
    go_enter Try.func30, Try.ntmps30
    rcases hkk with hkk | ⟨hkk, hkk2⟩
    · go_wp2_with fail
      refine (addR_c W v L x b hrA.out hG.out.asc (by omega)).mono ?_
      rintro e w1 ⟨v1, n1, rfl, hf1, hr1, hk01⟩
      have c0' := hk01.val c0
      have c1' := hk01.val c1
      have c2' := hk01.val c2
      have ht1 := htA.out.keeps hk01
      replace hk01 := hka.out.trans hk01
      replace hf1 := Lib.hid hf1
      replace hr1 := Lib.hid hr1
      replace ht1 := Lib.hid ht1
      replace hk01 := Lib.hid hk01
      clear c0 c1 c2
      go_wp2_with fail
      refine (add_c w1 bt bm L x b ht1.out (by omega)).mono ?_
      rintro e w2 ⟨n2, rfl, hf2, ht2, hk2⟩
      obtain rfl := Free.uniq hf1.out hf2
      have hr2 := hr1.out.keepN hk2 (fun b hb o => by simp at hb; subst hb; exact ht1.out.mp.noCells o)
      have hkf := (hk01.out.of_nil (T := [bm])).trans hk2
      replace hf2 := Lib.hid hf2
      replace ht2 := Lib.hid ht2
      replace hr2 := Lib.hid hr2
      replace hkf := Lib.hid hkf
      clear hk2 hf1
      go_wp2
      go_ret2
      exact ⟨_, _, rfl, .inl ⟨hk1, n1, hf2.out, by rw [hbk.out]⟩, ht2.out, hr2.out, hkf.out⟩
    · obtain rfl : b = true := by rw [← hb]; exact hkk2
      clear hkk2
      go_wp2_with fail
      refine (addR_c W v L x true hrA.out hG.out.asc (by omega)).mono ?_
      rintro e w1 ⟨v1, n1, rfl, hf1, hr1, hk01⟩
      have c0' := hk01.val c0
      have c1' := hk01.val c1
      have c2' := hk01.val c2
      have ht1 := htA.out.keeps hk01
      replace hk01 := hka.out.trans hk01
      replace hf1 := Lib.hid hf1
      replace hr1 := Lib.hid hr1
      replace ht1 := Lib.hid ht1
      replace hk01 := Lib.hid hk01
      clear c0 c1 c2
      go_wp2_with fail
      refine (add_c w1 bt bm L x true ht1.out (by omega)).mono ?_
      rintro e w2 ⟨n2, rfl, hf2, ht2, hk2⟩
      obtain rfl := Free.uniq hf1.out hf2
      have hr2 := hr1.out.keepN hk2 (fun b hb o => by simp at hb; subst hb; exact ht1.out.mp.noCells o)
      have hkf := (hk01.out.of_nil (T := [bm])).trans hk2
      replace hf2 := Lib.hid hf2
      replace ht2 := Lib.hid ht2
      replace hr2 := Lib.hid hr2
      replace hkf := Lib.hid hkf
      clear hk2 hf1
      go_wp2
      go_ret2
      exact ⟨_, _, rfl, .inl ⟨hk1, n1, hf2.out, by rw [hbk.out]⟩, ht2.out, hr2.out, hkf.out⟩
  · have q0 : ((k : Int) == 0) = false := by simp; omega
    have q1 : ((k : Int) == 1) = false := by simp; omega
    have q2 : ((k : Int) == 2) = true := by simp; omega
    replace hk2 := Lib.hid hk2
    go_enter Try.func30, Try.ntmps30
    go_wp2_with fail
    refine (setR_c W v L h x hrA.out hG.out.asc (by omega)).mono ?_
    rintro e w1 ⟨v1, rfl, hr1, hk01⟩
    have c0' := hk01.val c0
    have c1' := hk01.val c1
    have c2' := hk01.val c2
    have ht1 := htA.out.keeps hk01
    replace hk01 := hka.out.trans hk01
    replace hr1 := Lib.hid hr1
    replace ht1 := Lib.hid ht1
    replace hk01 := Lib.hid hk01
    clear c0 c1 c2
    go_wp2_with fail
    refine (set_c w1 bt bm L h x ht1.out hh (by omega)).mono ?_
    rintro e w2 ⟨rfl, ht2, hk12⟩
    have hr2 := hr1.out.keepN hk12 (fun b hb o => by simp at hb; subst hb; exact ht1.out.mp.noCells o)
    have hkf := (hk01.out.of_nil (T := [bm])).trans hk12
    replace ht2 := Lib.hid ht2
    replace hr2 := Lib.hid hr2
    replace hkf := Lib.hid hkf
    clear hk12
    obtain ⟨er, her⟩ : ∃ er, errL h L = er := ⟨_, rfl⟩
    rw [her]
    go_wp2
    go_ret2
    exact ⟨_, _, rfl, .inr (.inl ⟨hk2.out, rfl⟩), ht2.out, hr2.out, hkf.out⟩
  · have q0 : ((k : Int) == 0) = false := by simp; omega
    have q1 : ((k : Int) == 1) = false := by simp; omega
    have q2 : ((k : Int) == 2) = false := by simp; omega
    have q3 : ((k : Int) == 3) = true := by simp; omega
    replace hk3 := Lib.hid hk3
    go_enter Try.func30, Try.ntmps30
    go_wp2_with fail
    refine (dropR_c W v L h hrA.out hG.out.asc (by omega)).mono ?_
    rintro e w1 ⟨v1, rfl, hr1, hk01⟩
    have c0' := hk01.val c0
    have c1' := hk01.val c1
    have c2' := hk01.val c2
    have ht1 := htA.out.keeps hk01
    replace hk01 := hka.out.trans hk01
    replace hr1 := Lib.hid hr1
    replace ht1 := Lib.hid ht1
    replace hk01 := Lib.hid hk01
    clear c0 c1 c2
    go_wp2_with fail
    refine (drop_c w1 bt bm L h ht1.out hh).mono ?_
    rintro e w2 ⟨rfl, ht2, hk12⟩
    have hr2 := hr1.out.keepN hk12 (fun b hb o => by simp at hb; subst hb; exact ht1.out.mp.noCells o)
    have hkf := (hk01.out.of_nil (T := [bm])).trans hk12
    replace ht2 := Lib.hid ht2
    replace hr2 := Lib.hid hr2
    replace hkf := Lib.hid hkf
    clear hk12
    obtain ⟨er, her⟩ : ∃ er, errL h L = er := ⟨_, rfl⟩
    rw [her]
    go_wp2
    go_ret2
    exact ⟨_, _, rfl, .inr (.inr (.inl ⟨hk3.out, rfl⟩)), ht2.out, hr2.out, hkf.out⟩
  · have q0 : ((k : Int) == 0) = false := by simp; omega
    have q1 : ((k : Int) == 1) = false := by simp; omega
    have q2 : ((k : Int) == 2) = false := by simp; omega
    have q3 : ((k : Int) == 3) = false := by simp; omega
    go_enter Try.func30, Try.ntmps30
    go_wp2
    go_ret2
    exact ⟨_, _, rfl, .inr (.inr (.inr ⟨hk3, rfl⟩)), htA.out, hrA.out, hka.out.of_nil⟩
def RunPost (w : World) (l : List OpV) (e : Ending) (w' : World) : Prop :=
  ∃ bt bm v L, e = .returned (.tuple #[.pointer (some ⟨bt, 0, none⟩), v, .bool true]) ∧ Good L ∧ L.length ≤ l.length ∧ (∀ p ∈ L, 1 ≤ p.1) ∧ TM w' bt bm L ∧ shE.R w' v L ∧ Keeps [] w w' ∧ w.heap.size ≤ bt ∧ w.heap.size ≤ bm
theorem StepR.pos {k x : Nat} {h : Int} {L L' : List Hn} (s : StepR k h x L L') (hp : ∀ p ∈ L, 1 ≤ p.1) : ∀ p ∈ L', 1 ≤ p.1 := by
  rcases s with ⟨_, n, hf, rfl⟩ | ⟨_, rfl⟩ | ⟨_, rfl⟩ | ⟨_, rfl⟩
  · intro p hm
    rcases MapL.mem_ins hm with rfl | hm
    · exact hf.pos
    · exact hp p hm
  · unfold setL
    split
    · rename_i hs
      intro p hm
      rcases MapL.mem_ins hm with rfl | hm
      · obtain ⟨q, hq⟩ := Option.isSome_iff_exists.1 hs
        exact (show (1 : Int) ≤ h from hp (h, q) (MapL.get_mem hq))
      · exact hp p hm
    · exact hp
  · unfold dropL
    split
    · exact fun p hm => hp p (List.mem_filter.1 hm).1
    · exact hp
  · exact hp
set_option maxRecDepth 100000 in
set_option maxHeartbeats 4000000 in
theorem run_c (w : World) (v0 : Value) (l : List OpV) (h : shO.R w v0 l) (hok : ∀ o ∈ l, o.ok) (hl : l.length ≤ 400) :
    Calls Try.prog 11 #[v0] w (RunPost w l) := by
  obtain ⟨a0, c0, rfl, hlc, hcm, _⟩ := h.form
  obtain ⟨M, hM⟩ : ∃ N, l.length = N := ⟨_, rfl⟩
  rw [hM] at hlc hl h ⊢
  replace hM := Lib.hid hM
  replace h := Lib.hid h
  replace hok := Lib.hid hok
  go_enter Try.func11, Try.ntmps11
  go_wp2_with fail
  refine (new_c w).mono ?_
  rintro e w1 ⟨bt, bm, rfl, ht, hk1, hbt, hbm⟩
  have hka := (Keeps.refl [] w1).alloc (.cells #[] 34)
  have hO := Sh.O.fresh shE w1 w1.heap.size 34 (Nat.le_refl _)
  have ht1 := ht.keeps hka
  have hk1a := hk1.trans hka
  replace hO := Lib.hid hO
  replace ht1 := Lib.hid ht1
  replace hk1a := Lib.hid hk1a
  clear ht hka hk1
  go_wp2
  generalize w1.alloc (.cells #[] 34) = W at *
  go_loopw [6, 7, 8] (fun vv okv iv wr => ∃ (k : Nat) (L : List Hn), iv = .int .i64 k ∧ okv = .bool true ∧ k ≤ M ∧ Good L ∧ L.length ≤ k ∧ (∀ p ∈ L, 1 ≤ p.1) ∧ TM wr bt bm L ∧ shE.R wr vv L ∧ Keeps [] w wr) (fun _ _ iv _ => M - (intOf iv).toNat)
  case atStart => exact ⟨0, [], rfl, rfl, by omega, ⟨List.Pairwise.nil, by simp, by simp⟩, by simp, by simp, ht1.out, hO.out.r, hk1a.out⟩
  case round =>
    obtain ⟨k, L, rfl, rfl, hk, hG, hLk, hp, htr, hrr, hkr⟩ := hrel
    by_cases hlt : k < M
    · have hkl : k < l.length := by rw [hM.out]; exact hlt
      obtain ⟨g, o, c', hv, e0, e1, e2⟩ := elemO (h.out.keeps hkr) hkl
      rw [hM.out] at hv
      cases hv
      obtain ⟨y1, y2, y3⟩ := hok.out _ (List.getElem_mem hkl)
      obtain ⟨x, hx⟩ : ∃ x, l[k] = x := ⟨_, rfl⟩
      rw [hx] at e0 e1 e2 y1 y2 y3
      obtain ⟨xk, xh, xx⟩ := x
      simp only at e0 e1 e2 y1 y2 y3
      replace hx := Lib.hid hx
      replace hG := Lib.hid hG
      replace hp := Lib.hid hp
      replace htr := Lib.hid htr
      replace hrr := Lib.hid hrr
      replace hkr := Lib.hid hkr
      go_wp2_with fail
      refine (step_c wr bt bm L _ xk xh xx htr.out hrr.out hG.out (by omega) y1 y2 y3).mono ?_
      rintro e w2 ⟨v', L', rfl, hs, ht2, hr2, hk2⟩
      obtain ⟨hG2, hl2⟩ := hs.good hG.out y2 y3 (by omega)
      have hp2 := hs.pos hp.out
      have hkf := hkr.out.fresh hk2 (fun b hb => .inr (by simp at hb; omega))
      replace hG2 := Lib.hid hG2
      replace hp2 := Lib.hid hp2
      replace ht2 := Lib.hid ht2
      replace hr2 := Lib.hid hr2
      replace hkf := Lib.hid hkf
      clear hk2 hs e0 e1 e2
      go_wp2
      go_roundw
      case rel => exact ⟨k + 1, L', rfl, rfl, by omega, hG2.out, by omega, hp2.out, ht2.out, hr2.out, hkf.out⟩
      case measure => simp [intOf]; omega
    · have hkM := Lib.hid (show k = M by omega)
      replace hG := Lib.hid hG
      replace hp := Lib.hid hp
      replace htr := Lib.hid htr
      replace hrr := Lib.hid hrr
      replace hkr := Lib.hid hkr
      go_wp2
      refine bodyPost_ret (results_tmp3 rfl _ _ _) ?_ ?_
      · rfl
      · exact ⟨bt, bm, _, L, rfl, hG.out, by rw [hM.out]; omega, hp.out, htr.out, hrr.out, hkr.out, hbt, hbm⟩
end Go.Proofs.Ytmamlipgfkmcjaa

namespace Go.Proofs.Ytmamlipgfkmcjaa

/-- The digits of a number, the most significant one first. -/
def digs (n : Nat) : List UInt8 := if h : n = 0 then [] else digs (n / 256) ++ [UInt8.ofNat (n % 256)]
termination_by n
decreasing_by omega
theorem digs_zero : digs 0 = [] := by rw [digs]; simp
theorem digs_pos {n : Nat} (h : 0 < n) : digs n = digs (n / 256) ++ [UInt8.ofNat (n % 256)] := by rw [digs]; simp [show n ≠ 0 by omega]
theorem digs_len_pos {n : Nat} (h : 0 < n) : (digs n).length = (digs (n / 256)).length + 1 := by rw [digs_pos h]; simp
theorem digs_len_lt : ∀ (k n : Nat), n < 256 ^ k → (digs n).length ≤ k
  | 0, n, h => by have : n = 0 := by simpa using h
                  subst this; simp [digs_zero]
  | k + 1, n, h => by
    rcases Nat.eq_zero_or_pos n with rfl | hp
    · simp [digs_zero]
    · rw [digs_len_pos hp]
      have := digs_len_lt k (n / 256) (by rw [Nat.pow_succ] at h; omega)
      omega
theorem digs_len8 {n : Nat} (h : n < 18446744073709551616) : (digs n).length ≤ 8 := digs_len_lt 8 n (by simpa using h)
theorem digs_lt : ∀ (k n : Nat), (digs n).length = k → n < 256 ^ k
  | 0, n, h => by
    rcases Nat.eq_zero_or_pos n with rfl | hp
    · simp
    · rw [digs_len_pos hp] at h; omega
  | k + 1, n, h => by
    rcases Nat.eq_zero_or_pos n with rfl | hp
    · exact Nat.pow_pos (by omega)
    · rw [digs_len_pos hp] at h
      have := digs_lt k (n / 256) (by omega)
      rw [Nat.pow_succ]; omega
/-- The digit with `i` digits behind it. -/
theorem digs_get : ∀ (k n i : Nat), (digs n).length = k → i < k → (digs n)[k - 1 - i]? = some (UInt8.ofNat (n / 256 ^ i % 256))
  | 0, n, i, _, hi => by omega
  | k + 1, n, i, h, hi => by
    rcases Nat.eq_zero_or_pos n with rfl | hp
    · simp [digs_zero] at h
    · have h2 := digs_len_pos hp
      rw [digs_pos hp]
      cases i with
      | zero => rw [List.getElem?_append_right (by omega), show k + 1 - 1 - 0 - (digs (n / 256)).length = 0 from by omega]; simp
      | succ i =>
        rw [List.getElem?_append_left (by omega)]
        have := digs_get k (n / 256) i (by omega) (by omega)
        rw [show k + 1 - 1 - (i + 1) = k - 1 - i by omega, this, Nat.div_div_eq_div_mul, Nat.pow_succ, Nat.mul_comm 256]
/-- The encoding of a number. -/
def encU (n : Nat) : List UInt8 := UInt8.ofNat (digs n).length :: digs n
theorem encU_len {n : Nat} (h : n < 18446744073709551616) : (encU n).length ≤ 9 := by have := digs_len8 h; simp [encU]; omega
/-- A data datagram, an acknowledgement. -/
def dataB (n : Nat) (l : List UInt8) : List UInt8 := [1] ++ encU n ++ l
def ackB (n : Nat) : List UInt8 := [2] ++ encU n
/-- The number that digits stand for. -/
def valU (l : List UInt8) : Nat := l.foldl (fun n b => n * 256 + b.toNat) 0
theorem valU_snoc (l : List UInt8) (b : UInt8) : valU (l ++ [b]) = valU l * 256 + b.toNat := by simp [valU]
theorem valU_lt : ∀ (k : Nat) (l : List UInt8), l.length = k → valU l < 256 ^ k
  | 0, l, h => by rw [List.length_eq_zero_iff.1 h]; simp [valU]
  | k + 1, l, h => by
    obtain ⟨m, b, rfl⟩ : ∃ m b, l = m ++ [b] := ⟨l.dropLast, l.getLast (by intro e; subst e; simp at h), (List.dropLast_concat_getLast _).symm⟩
    have := valU_lt k m (by simpa using h)
    have hb := b.toNat_lt
    rw [valU_snoc, Nat.pow_succ]; omega
theorem valU_digs (n : Nat) : valU (digs n) = n := by
  induction n using Nat.strongRecOn with
  | _ n ih =>
    rcases Nat.eq_zero_or_pos n with rfl | hp
    · simp [digs_zero, valU]
    · rw [digs_pos hp, valU_snoc, ih (n / 256) (by omega)]
      simp; omega
theorem digs_valU : ∀ (k : Nat) (l : List UInt8), l.length = k → (∀ b, l[0]? = some b → b ≠ 0) → digs (valU l) = l
  | 0, l, h, _ => by rw [List.length_eq_zero_iff.1 h]; simp [valU, digs_zero]
  | k + 1, l, h, h0 => by
    obtain ⟨m, b, rfl⟩ : ∃ m b, l = m ++ [b] := ⟨l.dropLast, l.getLast (by intro e; subst e; simp at h), (List.dropLast_concat_getLast _).symm⟩
    have hm : m.length = k := by simpa using h
    have hb := b.toNat_lt
    rcases Nat.eq_zero_or_pos k with rfl | hk
    · have : m = [] := List.length_eq_zero_iff.1 hm
      subst this
      have hb0 : b ≠ 0 := h0 b (by simp)
      have hp : 0 < b.toNat := by
        rcases Nat.eq_zero_or_pos b.toNat with e | e
        · exact absurd (UInt8.toNat_inj.1 (by simpa using e)) hb0
        · exact e
      simp only [valU, List.nil_append, List.foldl_cons, List.foldl_nil, Nat.zero_mul, Nat.zero_add]
      rw [digs_pos hp, show b.toNat / 256 = 0 by omega, digs_zero, show b.toNat % 256 = b.toNat by omega]; simp
    · have h0' : ∀ c, m[0]? = some c → c ≠ 0 := fun c hc => h0 c (by rw [List.getElem?_append_left (by omega)]; exact hc)
      have ih := digs_valU k m hm h0'
      have hpos : 0 < valU m := by
        rcases Nat.eq_zero_or_pos (valU m) with e | e
        · rw [e, digs_zero] at ih; subst ih; simp at hm; omega
        · exact e
      rw [valU_snoc, digs_pos (by omega), show (valU m * 256 + b.toNat) / 256 = valU m by omega, ih, show (valU m * 256 + b.toNat) % 256 = b.toNat by omega]; simp
end Go.Proofs.Ytmamlipgfkmcjaa

namespace Go.Proofs.Ytmamlipgfkmcjaa
open Go.RowKit

theorem infoB : (Try.prog.info? 5).map (fun i => (i.zero, i.size, i.bytes)) = some (some (.int .u8 0), 1, 1) := by kernel_rfl
/-- The slice `v` reads as the bytes `l`, and is the call's own: it lies in a block from `base` on, at its head. -/
def Buf (w : World) (base : Nat) (v : Value) (l : List UInt8) : Prop := w.ownsRow base 5 1 v l.length (bys l)
theorem Buf.slB {w : World} {base : Nat} {v : Value} {l : List UInt8} (h : Buf w base v l) : SlB w v l := Sl.of_owns h
theorem Buf.nil (w : World) (base : Nat) : Buf w base (.slice none 0 0) [] := World.ownsRow_nil _ _ _ _
theorem Buf.form {w : World} {base : Nat} {v : Value} {l : List UInt8} (h : Buf w base v l) : ∃ a cap, v = .slice a l.length cap := h.slB.form
theorem Buf.of {w : World} {base n : Nat} {v : Value} {l m : List UInt8} (h : w.ownsRow base 5 1 v n (bys l ++ bys m)) : Buf w base v (l ++ m) := by
  have h1 := h.1
  unfold Buf
  rw [bys_append]
  have : (l ++ m).length = n := by simpa using h1
  rw [this]
  exact h
theorem byte_of {x : Int} (h0 : 0 ≤ x) : Value.int .u8 (x % 256) = .int .u8 ((UInt8.ofNat x.toNat).toNat : Int) := by
  congr 1; simp; omega

theorem wpl_pushB {ops : Array Oper} {rest : List Oper} {o : Oper} {a : Act} {Q : Exit → Act → World → Prop} (w : World) (base : Nat) (v : Value) (l : List UInt8) (x : Int) (hg : o.guard = none) (s t : Operand)
    (ho : o.op = .call { callee := .builtin .append, args := #[s, t], argTypes := #[54, 54] }) (hs : a.eval s = v) (ht : a.eval t = .slice (some ⟨w.heap.size, 0, none⟩) 1 1)
    (h : Buf w base v l) (b : UInt8) (hb : x = (b.toNat : Int)) (hl : l.length ≤ 140737488355300) (hbase : base ≤ w.heap.size)
    (K : ∀ v' w', Buf w' base v' (l ++ [b]) → Grw w w' v v' → wpList Try.prog ops Q rest (a.put o.dst v') w') : wpList Try.prog ops Q (o :: rest) a (w.alloc (.cells #[.int .u8 x] 5)) := by
  obtain ⟨i0, hi, hz0, hz1, hz2⟩ := info_parts infoB
  subst hb
  refine wpl_append_x hg s t _ ho base 5 i0 (.int .u8 0) 1 1 Try.underlying54 hi hz0 hz1 hz2 rfl (by decide) v l.length (bys l) hs (h.alloc _) _ 1 (bys [b]) ht (SlB.one w b _) (bys_one _) (by unfold maxLen; omega) (by omega) (by simp; omega) ?_
  intro v' w' h1 h2 _
  exact K v' w' (Buf.of h1) h2.alloc_left

theorem shr_byte (n k : Nat) : (n : Int) / 2 ^ (8 * k) % 256 = ((UInt8.ofNat (n / 256 ^ k % 256)).toNat : Int) := by
  have e : (256 : Nat) ^ k = 2 ^ (8 * k) := by rw [Nat.pow_mul]
  rw [e]
  simp
  
set_option maxRecDepth 100000 in
set_option maxHeartbeats 1000000 in
theorem appU_c (w : World) (base : Nat) (v0 : Value) (l : List UInt8) (n : Nat) (h : Buf w base v0 l) (hn : n < 18446744073709551616) (hl : l.length ≤ 140737488355000) (hb : base ≤ w.heap.size) :
    Calls Try.prog 45 #[v0, .int .u64 n] w fun e w' => ∃ v', e = .returned v' ∧ Buf w' base v' (l ++ encU n) ∧ Grw w w' v0 v' := by
  obtain ⟨i0, hi, hz0, hz1, hz2⟩ := info_parts infoB
  obtain ⟨K, hK⟩ : ∃ K, K = (digs n).length := ⟨_, rfl⟩
  have hK8 : K ≤ 8 := by rw [hK]; exact digs_len8 hn
  replace hK := Lib.hid hK
  go_enter Try.func45, Try.ntmps45
  go_wp2
  go_loop [5, 6] (fun k r => ∃ (j : Nat) (x : Nat), j ≤ K ∧ x < 18446744073709551616 ∧ k = .int .i64 j ∧ r = .int .u64 x ∧ Hid (j + (digs x).length = K)) (fun _ r => (intOf r).toNat)
  case atStart => exact ⟨0, n, by omega, hn, rfl, rfl, by show _ = _; rw [hK.out]; simp⟩
  case round =>
    obtain ⟨j, x, hj, hx, rfl, rfl, hjx⟩ := hrel
    by_cases hp : 0 < x
    · have hd := digs_len_pos hp
      have hj2 : Hid (j + 1 + (digs (x / 256)).length = K) := by have := hjx.out; show _ = _; omega
      have hj3 : j + 1 ≤ K := by have := hj2.out; omega
      clear hd hjx
      go_wp2
      go_round
      case rel => exact ⟨j + 1, x / 256, hj3, by omega, by go_num, by go_num, hj2⟩
      case measure => simp [intOf]; omega
    · have hx0 : x = 0 := by omega
      have hjK : j = K := by have := hjx.out; rw [hx0, digs_zero] at this; simpa using this
      subst hjK
      have h0 := h
      obtain ⟨a0, c0, rfl⟩ := h.form
      replace h0 := Lib.hid h0
      clear h hjx hx0
      go_wp2_with (at_builtin; (refine wpl_pushB _ base _ l _ rfl _ _ rfl rfl rfl h0.out (UInt8.ofNat j) (by simp; omega) (by omega) hb ?_; intro v1 w1 hB1 hG1))
      go_loopw [0, 7] (fun v i wr => ∃ (m : Nat) (L : List UInt8), m ≤ j ∧ i = .int .i64 ((j : Int) - 1 - m) ∧ Hid (L = l ++ [UInt8.ofNat j] ++ (digs n).take m) ∧ Buf wr base v L ∧ Grw w wr (.slice a0 l.length c0) v) (fun _ i _ => (intOf i + 1).toNat)
      case atStart => exact ⟨0, _, by omega, by simp, by show _ = _; simp, hB1, hG1⟩
      case round =>
        obtain ⟨m, L, hm, rfl, hL, hB, hG⟩ := hrel
        obtain ⟨am, cm, rfl⟩ := hB.form
        clear hB1 hG1
        have hsz := hG.grown.size
        have hlen : L.length ≤ 140737488355300 := by
          rw [hL.out]; simp only [List.length_append, List.length_take, List.length_cons, List.length_nil]; omega
        replace hB := Lib.hid hB
        replace hG := Lib.hid hG
        by_cases hmj : m < j
        · have hdg := digs_get j n (j - 1 - m) hK.out.symm (by omega)
          have hdg2 : Hid ((digs n)[m]? = some (UInt8.ofNat (n / 256 ^ (j - 1 - m) % 256))) := by rw [show j - 1 - (j - 1 - m) = m by omega] at hdg; exact hdg
          clear hdg
          go_wp2_with (at_builtin; (refine wpl_pushB _ base _ _ _ rfl _ _ rfl rfl rfl hB.out (UInt8.ofNat (n / 256 ^ (j - 1 - m) % 256)) (shr_byte _ _) hlen (by omega) ?_; intro v2 w2 hB2 hG2))
          go_roundw
          case rel => exact ⟨m + 1, _, by omega, by go_num, by show _ = _; rw [hL.out, List.take_add_one, hdg2.out]; simp, hB2, hG.out.trans hG2⟩
          case measure => simp [intOf]; omega
        · have hmj : m = j := by omega
          have hfin : Hid (L = l ++ encU n) := by
            show _ = _
            rw [hL.out, hmj]; unfold encU; rw [← hK.out, List.take_of_length_le (by rw [← hK.out]; omega)]; simp
          clear hL
          go_wp2
          go_ret
          exact ⟨_, rfl, by rw [← hfin.out]; exact hB.out, hG.out⟩

/-- `append(v, v2...)` of bytes, `v` the call's own. -/
theorem wpl_appB {ops : Array Oper} {rest : List Oper} {o : Oper} {a : Act} {Q : Exit → Act → World → Prop} (w : World) (base : Nat) (v : Value) (l : List UInt8) (hg : o.guard = none) (s t : Operand)
    (ho : o.op = .call { callee := .builtin .append, args := #[s, t], argTypes := #[54, 54] }) (hs : a.eval s = v) (v2 : Value) (m : List UInt8) (ht : a.eval t = v2)
    (h : Buf w base v l) (h2 : SlB w v2 m) (hl : l.length + m.length ≤ 140737488355328) (hbase : base ≤ w.heap.size)
    (K : ∀ v' w', Buf w' base v' (l ++ m) → Grw w w' v v' → wpList Try.prog ops Q rest (a.put o.dst v') w') : wpList Try.prog ops Q (o :: rest) a w := by
  obtain ⟨i0, hi, hz0, hz1, hz2⟩ := info_parts infoB
  refine wpl_append_x hg s t _ ho base 5 i0 (.int .u8 0) 1 1 Try.underlying54 hi hz0 hz1 hz2 rfl (by decide) v l.length (bys l) hs h _ m.length (bys m) ht h2 (bys_one _) (by unfold maxLen; omega) (by omega) hbase ?_
  intro v' w' h1 h2 _
  exact K v' w' (Buf.of h1) h2
theorem Buf.fresh (w : World) : Buf (w.alloc (.cells #[] 5)) w.heap.size (.slice (some ⟨w.heap.size, 0, none⟩) 0 0) [] := ownsRow_empty w _ _ _ (Nat.le_refl _)
theorem Buf.one (w : World) (b : UInt8) {x : Int} (hx : x = (b.toNat : Int)) : Buf (w.alloc (.cells #[.int .u8 x] 5)) w.heap.size (.slice (some ⟨w.heap.size, 0, none⟩) 1 1) [b] := by
  subst hx
  exact ⟨rfl, .inr ⟨_, 1, _, rfl, Nat.le_refl _, heap_alloc_new _ _, Nat.le_refl _, by simp [maxLen], rfl, rfl⟩⟩
theorem Buf.keep {w w' : World} {base : Nat} {v : Value} {l : List UInt8} (h : Buf w base v l) (hk : Keeps [] w w') : Buf w' base v l := ownsRow_block h (fun b _ hb => hk.block b hb (by simp))
theorem SlB.cap {w : World} {v : Value} {l : List UInt8} (h : SlB w v l) : l.length ≤ maxLen := by obtain ⟨_, a, c, rfl, h1, h2, _⟩ := h; omega

set_option maxRecDepth 100000 in
set_option maxHeartbeats 1000000 in
theorem clone_c (w : World) (v0 : Value) (l : List UInt8) (h : SlB w v0 l) (hl : l.length ≤ 140737488355328) :
    Calls Try.prog 56 #[v0] w fun e w' => ∃ v', e = .returned v' ∧ Buf w' w.heap.size v' l ∧ Keeps [] w w' := by
  have q22 : ∀ (w : World) (a : Option Addr) (n c n' c' : Nat), (binOp .eql 54 (.slice a n c) (.slice none n' c')).run Try.prog w = .ok (.bool a.isNone) w := fun w a n c n' c' => Lib.run_eql_slice_nil w _ _ a n c n' c' Try.underlying54
  obtain ⟨a0, c0, rfl⟩ := h.form
  cases a0 with
  | none =>
    have hl0 : l = [] := by
      rcases h.cases with ⟨e, _⟩ | ⟨g, o, cap, e, _⟩
      · exact e
      · cases e
    subst hl0
    replace h := Lib.hid h
    all_goals
      go_enter Try.func56, Try.ntmps56
      go_wp2
      go_ret
      exact ⟨_, rfl, Buf.nil _ _, Keeps.refl _ _⟩
  | some ad =>
    replace h := Lib.hid h
    all_goals
      go_enter Try.func56, Try.ntmps56
      go_wp2_with (at_builtin; (refine wpl_appB _ w.heap.size (.slice (some ⟨w.heap.size, 0, none⟩) 0 0) [] rfl _ _ rfl rfl _ l rfl (Buf.fresh w) (h.out.keeps ((Keeps.refl [] w).alloc _)) (by simp; omega) (by simp) ?_; intro v1 w1 hB1 hG1))
      go_ret
      exact ⟨_, rfl, hB1, hG1.keeps ((Keeps.refl [] w).alloc _) (by simp [Value.ownBlock])⟩

/-- Bytes as a string. -/
def str (l : List UInt8) : ByteArray := ⟨l.toArray⟩
theorem run_str {w : World} {v : Value} {l : List UInt8} (h : SlB w v l) : (convert 54 9 v).run Try.prog w = .ok (.string (str l)) w := by
  rcases h.cases with ⟨rfl, a, c, rfl, _, _⟩ | ⟨g, o, c, rfl, _, _, _, _, hc⟩
  · cases a with
    | none => exact run_convert_bytes_nil w _ _ Try.underlying54 Try.underlying5 _ _ _ Try.underlying9
    | some a =>
      have := run_convert_bytes_arg (P := Try.prog) w 54 5 Try.underlying54 Try.underlying5 a.block a.off 0 c [] rfl (fun i hi => by omega) 9 Try.underlying9
      rw [run_convert_bytes_string w _ _ 5 _ _ _ Try.underlying54 Try.underlying5 Try.underlying9] at this ⊢
      simp [Conv.bytesToString, loadCells, loadCellsFrom] at this ⊢
      rfl
  · have := run_convert_bytes_arg (P := Try.prog) w 54 5 Try.underlying54 Try.underlying5 g o l.length c (l.map fun b => (b.toNat : Int)) (by simp) (fun i hi => by rw [hc i hi]; simp [hi]) 9 Try.underlying9
    rw [this]
    simp [strOfNums, str, Function.comp_def]
theorem str_inj {l m : List UInt8} (h : str l = str m) : l = m := by simpa [str] using h

set_option maxRecDepth 100000 in
set_option maxHeartbeats 1000000 in
theorem same_c (w : World) (va vb : Value) (l m : List UInt8) (ha : SlB w va l) (hb : SlB w vb m) :
    Calls Try.prog 27 #[va, vb] w fun e w' => e = .returned (.bool (decide (l = m))) ∧ w = w' := by
  have h1 := run_str ha
  have h2 := run_str hb
  obtain ⟨a0, c0, rfl⟩ := ha.form
  obtain ⟨a1, c1, rfl⟩ := hb.form
  clear ha hb
  generalize hx : str l = x at *
  generalize hy : str m = y at *
  replace hx := Lib.hid hx
  replace hy := Lib.hid hy
  go_enter Try.func27, Try.ntmps27
  go_wp2
  go_ret
  refine ⟨?_, rfl⟩
  show Ending.returned (Value.bool (x.toList == y.toList)) = _
  rw [← hx.out, ← hy.out]
  have : (l == m) = decide (l = m) := by rw [Bool.eq_iff_iff]; simp
  simp [str, this]
end Go.Proofs.Ytmamlipgfkmcjaa

namespace Go.Proofs.Ytmamlipgfkmcjaa
open Go.RowKit Go.Maps
attribute [local go_sem] Oper.semAt_some

theorem w64_le {m : Int} (h : W64 m) : m ≤ 9223372036854775807 := by
  simp [W64, Lit.wf, IntKind.min, IntKind.max, IntKind.signed, IntKind.bits] at h; omega
def encB (b : Bool) : List UInt8 := [if b then 1 else 0]
set_option maxRecDepth 100000 in
set_option maxHeartbeats 1000000 in
theorem appB_c (w : World) (base : Nat) (v0 : Value) (l : List UInt8) (b : Bool) (h : Buf w base v0 l) (hl : l.length ≤ 140737488355000) (hb : base ≤ w.heap.size) :
    Calls Try.prog 48 #[v0, .bool b] w fun e w' => ∃ v', e = .returned v' ∧ Buf w' base v' (l ++ encB b) ∧ Grw w w' v0 v' := by
  obtain ⟨a0, c0, rfl⟩ := h.form
  replace h := Lib.hid h
  cases b
  · go_enter Try.func48, Try.ntmps48
    go_wp2_with (at_builtin; (refine wpl_pushB _ base _ l _ rfl _ _ rfl rfl rfl h.out (0 : UInt8) (by rfl) (by omega) hb ?_; intro v1 w1 hB1 hG1))
    go_ret
    exact ⟨_, rfl, hB1, hG1⟩
  · go_enter Try.func48, Try.ntmps48
    go_wp2_with (at_builtin; (refine wpl_pushB _ base _ l _ rfl _ _ rfl rfl rfl h.out (1 : UInt8) (by rfl) (by omega) hb ?_; intro v1 w1 hB1 hG1))
    go_ret
    exact ⟨_, rfl, hB1, hG1⟩
set_option maxRecDepth 100000 in
set_option maxHeartbeats 1000000 in
theorem selT_c (n x : Nat) (b : Bool) (W : World) :
    CallsIn Fence.wide n Try.prog 47 (#[vfE (x, b)] ++ #[]) W fun e W' => e = .returned (.bool true) ∧ W.grownBy W' none := by
  refine (callsIn_wide (n := n)).2 ?_
  go_enter Try.func47, Try.ntmps47
  go_wp2
  go_ret
  exact ⟨rfl, World.grownBy_alloc _ _ _⟩
/-- The bytes of one handle; of a table. -/
def encH (p : Hn) : List UInt8 := encU p.1.toNat ++ encB p.2.2 ++ encU p.2.1
def encL (L : List Hn) : List UInt8 := (L.map encH).flatten
def encT (L : List Hn) : List UInt8 := encU L.length ++ encL L
theorem encL_snoc (L : List Hn) (p : Hn) : encL (L ++ [p]) = encL L ++ encH p := by simp [encL]
theorem encH_len {p : Hn} (h1 : p.1.toNat < 18446744073709551616) (h2 : p.2.1 < 18446744073709551616) : (encH p).length ≤ 19 := by
  have := encU_len h1
  have := encU_len h2
  simp [encH, encB]; omega
theorem encL_len : ∀ {L : List Hn}, (∀ p ∈ L, p.1.toNat < 18446744073709551616 ∧ p.2.1 < 18446744073709551616) → (encL L).length ≤ 19 * L.length
  | [], _ => by simp [encL]
  | p :: t, h => by
    have h1 := encL_len (L := t) (fun q hq => h q (by simp [hq]))
    have h2 := encH_len (h p (by simp)).1 (h p (by simp)).2
    have : encL (p :: t) = encH p ++ encL t := by simp [encL]
    rw [this, List.length_append, List.length_cons]; omega
theorem Grw.ne {w w' : World} {v v' : Value} (g : Grw w w' v v') {X : Nat} (hv : v.ownBlock ≠ some X) (hX : X < w.heap.size) : v'.ownBlock ≠ some X := by
  rcases g.own with e | ⟨k, e, hk⟩
  · rw [e]; exact hv
  · rw [e]; intro h; cases h; omega
/-- What the growth of a buffer leaves, draws and other makings between. -/
structure GK (a w : World) (v v' : Value) : Prop where
  keeps : Keeps v.ownBlock.toList a w
  own : v'.ownBlock = v.ownBlock ∨ ∃ k, v'.ownBlock = some k ∧ a.heap.size ≤ k
theorem GK.refl (a : World) (v : Value) : GK a a v v := ⟨Keeps.refl _ _, .inl rfl⟩
theorem GK.then {a w w' : World} {v v' : Value} (h : GK a w v v') (k : Keeps [] w w') : GK a w' v v' := ⟨h.keeps.trans k.of_nil, h.own⟩
theorem GK.grw {a w w' : World} {v v' x : Value} (h : GK a w v v') (k : Grw w w' v' x) : GK a w' v x := by
  refine ⟨h.keeps.fresh k.keepsO (fun b hb => ?_), ?_⟩
  · rcases h.own with e | ⟨j, e, hj⟩
    · rw [e] at hb; exact .inl hb
    · rw [e] at hb; simp at hb; subst hb; exact .inr hj
  · rcases k.own with e | ⟨j, e, hj⟩
    · rw [e]; exact h.own
    · exact .inr ⟨j, e, Nat.le_trans h.keeps.size hj⟩
theorem GK.nil {w0 a w : World} {v v' : Value} (h : GK a w v v') (hk : Keeps [] w0 a) (hv : ∀ b, v.ownBlock = some b → w0.heap.size ≤ b) : Keeps [] w0 w :=
  hk.fresh h.keeps (fun b hb => .inr (hv b (by simpa using hb)))
theorem Grw.keepsP {w w' : World} {v v' : Value} (g : Grw w w' v v') {X : Nat} (hv : v.ownBlock ≠ some X) : Free.KeepsP (fun b => b ≠ X) w w' :=
  Free.KeepsP.grown g.grown (fun k e h => hv (by rw [e, h]))
set_option maxRecDepth 100000 in
set_option maxHeartbeats 4000000 in
theorem encode_c (w : World) (bt bm : Nat) (L : List Hn) (t : TM w bt bm L) (hG : Good L) (hp : ∀ p ∈ L, 1 ≤ p.1) (hL : L.length < 1000000) :
    Calls Try.prog 28 #[.pointer (some ⟨bt, 0, none⟩)] w fun e w' => ∃ v, e = .returned v ∧ Buf w' w.heap.size v (encT L) ∧ Keeps [] w w' := by
  have hlenm := t.mp.len Try.underlying71 3
  have hcell := t.cell
  have hbt := lt_of_block t.blk
  obtain ⟨M, hM⟩ : ∃ M, L.length = M := ⟨_, rfl⟩
  rw [hM] at hlenm hL
  have hlu : ∀ p ∈ L, p.1.toNat < 18446744073709551616 ∧ p.2.1 < 18446744073709551616 := fun p hm => ⟨by have := w64_le (hG.w p hm); omega, hG.u p hm⟩
  replace hlu := Lib.hid hlu
  replace hM := Lib.hid hM
  replace hG := Lib.hid hG
  replace hp := Lib.hid hp
  go_enter Try.func28, Try.ntmps28
  go_wp2_with fail
  refine (appU_c w w.heap.size (.slice none 0 0) [] M (Buf.nil _ _) (by omega) (by simp) (Nat.le_refl _)).mono ?_
  rintro e w1 ⟨v1, rfl, hB1, hG1⟩
  have hk1 := Grw.keeps (Keeps.refl [] w) hG1 (fun b hb => by simp [Value.ownBlock] at hb)
  have ht1 := t.keeps hk1
  rw [List.nil_append] at hB1
  have hlt1 : ∀ b, v1.ownBlock = some b → b < w1.heap.size := fun b hb => (World.ownsRow.lt hB1 b hb).2
  have hge1 : ∀ b, v1.ownBlock = some b → w.heap.size ≤ b := fun b hb => (World.ownsRow.lt hB1 b hb).1
  replace hB1 := Lib.hid hB1
  replace hk1 := Lib.hid hk1
  clear hG1 hlenm hcell
  go_wp2_with fail
  refine (all_c w1 bt 47 #[]).mono ?_
  rintro e w3 ⟨rfl, hw3⟩
  have hka := (Keeps.refl [] w1).alloc (.cells #[.pointer (some ⟨bt, 0, none⟩)] 25)
  have hb1 := heap_alloc_new w1 (.cells #[.pointer (some ⟨bt, 0, none⟩)] 25)
  have hkb := (Keeps.refl [] (w1.alloc (.cells #[.pointer (some ⟨bt, 0, none⟩)] 25))).alloc (.cells #[.func (.func 47) #[] #[]] 79)
  have hb2 := heap_alloc_new (w1.alloc (.cells #[.pointer (some ⟨bt, 0, none⟩)] 25)) (.cells #[.func (.func 47) #[] #[]] 79)
  have hb12 := (hkb.block _ (by simp) (by simp)).trans hb1
  rw [← hw3] at hkb hb2 hb12
  rw [show (w1.alloc (.cells #[.pointer (some ⟨bt, 0, none⟩)] 25)).heap.size = w1.heap.size + 1 by simp] at hb2
  have hk3 := hka.trans hkb
  have ht3 := ht1.keeps hk3
  have hz3 : w3.heap.size = w1.heap.size + 2 := by rw [hw3]; simp
  have hk03 := hk1.out.trans hk3
  have hB3 := hB1.out.keep hk3
  have hz1 := hk1.out.size
  clear hw3 hka hb1 hkb ht1
  have hst := all1_stops 47 #[] (fun _ => true) 7 w1.heap.size (w1.heap.size + 1) bt bm [w1.heap.size, w1.heap.size + 1, bt] L w3 (by omega) (cell1 hb12).1 (cell1 hb2).1 ht3 (by simp) (by simp; omega)
    (fun W x b' hS => selT_c 6 x b' W) (enters_of Try.func47 (by kernel_rfl) rfl)
  rw [hM.out] at hst
  obtain ⟨l, hl⟩ : ∃ l, L.map (·.1) = l := ⟨_, rfl⟩
  have hll : l.length = M := by rw [← hl, List.length_map]; exact hM.out
  have hsor : ∀ xs, AllOf L (fun _ => true) xs → xs.mergeSort (fun x y => decide (x ≤ y)) = l := fun xs hx => by
    refine sorted_of hx.1 ?_ (fun k => ?_)
    · rw [← hl, List.pairwise_map]; exact hG.out.asc.imp (fun h => h)
    · rw [hx.2 k, ← hl, List.mem_map]
      constructor
      · rintro ⟨p, h1, _⟩; exact ⟨(k, p), MapL.get_mem h1, rfl⟩
      · rintro ⟨⟨x, p⟩, h1, rfl⟩; exact ⟨p, MapL.get_of_mem hG.out.asc h1, rfl⟩
  obtain ⟨B1, hB1e⟩ : ∃ x, w1.heap.size = x := ⟨_, rfl⟩
  rw [hB1e] at hst hz3 hz1 hlt1 ⊢
  replace hst := Lib.hid hst
  replace hl := Lib.hid hl
  replace hB1e := Lib.hid hB1e
  replace hsor := Lib.hid hsor
  replace hB3 := Lib.hid hB3
  replace hk03 := Lib.hid hk03
  replace ht3 := Lib.hid ht3
  replace t := Lib.hid t
  clear hb12 hb2 hk3 hk1 hB1
  go_wp2_with fail
  refine (sorted_c w3 _ _ L (fun _ => true) M l hst.out (by simp; omega) (by omega) hsor.out (by omega)).mono ?_
  rintro e w4 ⟨vl, rfl, hS, hk4, hge⟩
  obtain ⟨al, cl, rfl, hlc, hcm, _⟩ := hS.form
  rw [hll] at hS hlc hge ⊢
  have hsep : ∀ b ∈ v1.ownBlock.toList, (Value.slice al M cl).ownBlock ≠ some b := fun b hb e => by
    have h1 := hge b e
    have h2 := hlt1 b (by simpa using hb)
    omega
  have hB4 := hB3.out.keep hk4
  have hk04 := hk03.out.trans hk4
  replace hS := Lib.hid hS
  replace hll := Lib.hid hll
  replace hB4 := Lib.hid hB4
  replace hk04 := Lib.hid hk04
  clear ht3 hB3 hk03 hk4 hst hsor
  go_wp2
  go_loopw [3, 18] (fun bv iv wr => ∃ k : Nat, iv = .int .i64 k ∧ k ≤ M ∧ Buf wr w.heap.size bv (encU M ++ encL (L.take k)) ∧ GK w4 wr v1 bv) (fun _ iv _ => M - (intOf iv).toNat)
  case atStart => exact ⟨0, rfl, by omega, by simpa [encL] using hB4.out, GK.refl _ _⟩
  case round =>
    obtain ⟨k, rfl, hk, hB, hgk⟩ := hrel
    have hkr := hgk.nil hk04.out hge1
    have hsz := hgk.keeps.size
    have hsz0 := hk04.out.size
    by_cases hlt : k < M
    · have hkl : k < L.length := by rw [hM.out]; exact hlt
      have hkl2 : k < l.length := by rw [hll.out]; exact hlt
      obtain ⟨g, o, c', hv, e0⟩ := elemI (hS.out.keepS hgk.keeps hsep) hkl2
      rw [hll.out] at hv
      cases hv
      have hlk : l[k] = L[k].1 := by have := hl.out; subst this; simp
      have hx64 := hG.out.w _ (List.getElem_mem hkl)
      have hx1 := hp.out _ (List.getElem_mem hkl)
      have hlub := hlu.out _ (List.getElem_mem hkl)
      have hgw := gW_at hG.out.asc hkl
      have hgb := gB_at hG.out.asc hkl
      have hsn : encL (L.take (k + 1)) = encL (L.take k) ++ encH L[k] := by rw [List.take_add_one, List.getElem?_eq_getElem hkl]; exact encL_snoc _ _
      have hel := encL_len (L := L.take k) (fun p hm => hlu.out p (List.mem_of_mem_take hm))
      rw [List.length_take, hM.out] at hel
      have hem := encU_len (n := M) (by omega)
      rw [hlk] at e0
      obtain ⟨y, hy⟩ : ∃ y, L[k] = y := ⟨_, rfl⟩
      rw [hy] at e0 hx64 hx1 hlub hgw hgb hsn
      obtain ⟨y1, y2, y3⟩ := y
      simp only at e0 hx64 hx1 hlub hgw hgb hsn
      obtain ⟨n1, rfl⟩ : ∃ n : Nat, y1 = n := ⟨y1.toNat, by omega⟩
      rw [Int.toNat_natCast] at hlub
      obtain ⟨hn1, hn2⟩ := hlub
      have htr := t.out.keeps hkr
      have hlook := htr.look hx64
      rw [hgw, hgb] at hlook
      have hcell := htr.cell
      have hen1 := encU_len hn1
      have hen2 := encU_len hn2
      have hn63 := w64_le hx64
      obtain ⟨D, hD⟩ : ∃ D, encU M ++ encL (L.take k) = D := ⟨_, rfl⟩
      have hDl : D.length ≤ 9 + 19 * k := by rw [← hD, List.length_append]; omega
      have hfin : encU M ++ encL (L.take (k + 1)) = D ++ encU n1 ++ encB y3 ++ encU y2 := by rw [hsn, ← hD]; simp [encH]
      rw [hD] at hB
      have hkA := (Keeps.refl [] wr).alloc (.cells #[.int .u64 y2, .bool y3] 69)
      have hbA := heap_alloc_new wr (.cells #[.int .u64 y2, .bool y3] 69)
      have hszA : (wr.alloc (.cells #[.int .u64 y2, .bool y3] 69)).heap.size = wr.heap.size + 1 := by simp
      obtain ⟨ab, cb, rfl⟩ := hB.form
      have hBX : (Value.slice ab D.length cb).ownBlock ≠ some wr.heap.size := fun e => by have := (World.ownsRow.lt hB _ e).2; omega
      obtain ⟨W, hW⟩ : ∃ W, wr.alloc (.cells #[.int .u64 y2, .bool y3] 69) = W := ⟨_, rfl⟩
      rw [hW] at hkA hbA hszA
      have f0 := cell_at hbA 0
      have f1 := cell_at hbA 1
      simp only [List.getElem?_toArray, List.getElem?_cons_zero, List.getElem?_cons_succ] at f0 f1
      have hBA := hB.keep hkA
      have hgA := hgk.then hkA
      replace hW := Lib.hid hW
      replace hy := Lib.hid hy
      replace hD := Lib.hid hD
      replace hfin := Lib.hid hfin
      replace hBA := Lib.hid hBA
      replace hgA := Lib.hid hgA
      clear hsn hgw hgb hkA hbA htr hkr hB hlk hel hem hgk
      go_wp2
      rw [hW.out]
      refine Free.wp_region_chain (fun i => i == 3 || i == 6 || i == 9) (fun i => true) (fun _ b => b ≠ wr.heap.size) (by kernel_rfl) (by kernel_rfl) (by kernel_rfl) ?_
      (repeat (first | (apply Free.cw_pure rfl rfl; (intro w'; go_simp <;> exact rfl); go_frame) | (apply Free.cw_steady rfl rfl rfl; (intro w' hS; have q0 := Free.sx_cell hS f0 (fun _ _ hT => hT rfl); have q1 := Free.sx_cell hS f1 (fun _ _ hT => hT rfl); go_simp <;> exact rfl); go_frame) | (refine Free.cw_skip rfl ?_; go_frame)))
      refine Free.cw_loud rfl rfl (fun K hK => ?_)
      go_wp2_with fail
      refine (appU_c _ w.heap.size _ D n1 (hBA.out.keep (Keeps.refl [] _).drew) hn1 (by omega) (by simp; omega)).mono ?_
      rintro e w5 ⟨v5, rfl, hB5, hG5⟩
      have hg5 := (hgA.out.then (Keeps.refl [] W).drew).grw hG5
      have hX5 := hG5.ne hBX (by simp; omega)
      have hsz5 : W.heap.size ≤ w5.heap.size := by have := hG5.grown.size; simpa using this
      refine hK _ _ rfl (hG5.keepsP hBX) ?_
      clear hK K hG5
      obtain ⟨a5, c5, rfl⟩ := hB5.form
      have hl5 : (D ++ encU n1).length ≤ 9 + 19 * k + 9 := by simp; omega
      obtain ⟨D5, hD5⟩ : ∃ x, D ++ encU n1 = x := ⟨_, rfl⟩
      rw [hD5] at hB5 hX5 hg5 hl5 ⊢
      replace hD5 := Lib.hid hD5
      replace hB5 := Lib.hid hB5
      replace hg5 := Lib.hid hg5
      clear hgA
      (repeat (first | (apply Free.cw_pure rfl rfl; (intro w'; go_simp <;> exact rfl); go_frame) | (apply Free.cw_steady rfl rfl rfl; (intro w' hS; have q0 := Free.sx_cell hS f0 (fun _ _ hT => hT rfl); have q1 := Free.sx_cell hS f1 (fun _ _ hT => hT rfl); go_simp <;> exact rfl); go_frame) | (refine Free.cw_skip rfl ?_; go_frame)))
      refine Free.cw_loud rfl rfl (fun K hK => ?_)
      go_wp2_with fail
      refine (appB_c _ w.heap.size _ D5 y3 hB5.out (by omega) (by omega)).mono ?_
      rintro e w6 ⟨v6, rfl, hB6, hG6⟩
      have hg6 := hg5.out.grw hG6
      have hX6 := hG6.ne hX5 (by omega)
      have hsz6 := hG6.grown.size
      refine hK _ _ rfl (hG6.keepsP hX5) ?_
      clear hK K hG6
      obtain ⟨a6, c6, rfl⟩ := hB6.form
      have hl6 : (D5 ++ encB y3).length ≤ 9 + 19 * k + 10 := by simp [encB]; omega
      obtain ⟨D6, hD6⟩ : ∃ x, D5 ++ encB y3 = x := ⟨_, rfl⟩
      rw [hD6] at hB6 hX6 hg6 hl6 ⊢
      replace hD6 := Lib.hid hD6
      replace hB6 := Lib.hid hB6
      replace hg6 := Lib.hid hg6
      clear hg5 hB5
      (repeat (first | (apply Free.cw_pure rfl rfl; (intro w'; go_simp <;> exact rfl); go_frame) | (apply Free.cw_steady rfl rfl rfl; (intro w' hS; have q0 := Free.sx_cell hS f0 (fun _ _ hT => hT rfl); have q1 := Free.sx_cell hS f1 (fun _ _ hT => hT rfl); go_simp <;> exact rfl); go_frame) | (refine Free.cw_skip rfl ?_; go_frame)))
      refine Free.cw_loud rfl rfl (fun K hK => ?_)
      go_wp2_with fail
      refine (appU_c _ w.heap.size _ D6 y2 hB6.out hn2 (by omega) (by omega)).mono ?_
      rintro e w7 ⟨v7, rfl, hB7, hG7⟩
      have hg7 := hg6.out.grw hG7
      refine hK _ _ rfl (hG7.keepsP hX6) ?_
      clear hK K hG7
      rw [← hD6.out, ← hD5.out, ← hfin.out] at hB7
      replace hB7 := Lib.hid hB7
      replace hg7 := Lib.hid hg7
      clear hg6 hB6
      (repeat (first | (apply Free.cw_pure rfl rfl; (intro w'; go_simp <;> exact rfl); go_frame) | (apply Free.cw_steady rfl rfl rfl; (intro w' hS; have q0 := Free.sx_cell hS f0 (fun _ _ hT => hT rfl); have q1 := Free.sx_cell hS f1 (fun _ _ hT => hT rfl); go_simp <;> exact rfl); go_frame) | (refine Free.cw_skip rfl ?_; go_frame)))
      refine Free.cw_nil ?_
      go_wp2
      go_roundw
      case rel => exact ⟨k + 1, rfl, by omega, hB7.out, hg7.out⟩
      case measure => simp [intOf]; omega
    · have hkM := Lib.hid (show k = M by omega)
      have hall : L.take k = L := List.take_of_length_le (by rw [hM.out]; omega)
      rw [hall] at hB
      replace hall := Lib.hid hall
      replace hB := Lib.hid hB
      replace hkr := Lib.hid hkr
      clear hgk
      go_wp2
      go_ret
      exact ⟨_, rfl, by unfold encT; rw [hM.out]; exact hB.out, hkr.out⟩
end Go.Proofs.Ytmamlipgfkmcjaa

namespace Go.Proofs.Ytmamlipgfkmcjaa
open Go.RowKit Go.Maps
attribute [local go_sem] Oper.semAt_some

abbrev la0 : List Hn := [(1, (10, false))]
abbrev la1 : List Hn := [(1, (10, false)), (2, (20, true))]
abbrev la2 : List Hn := [(1, (10, false)), (2, (20, true)), (3, (30, false))]
abbrev la3 : List Hn := [(1, (10, false)), (3, (30, false))]
abbrev la4 : List Hn := [(1, (10, false)), (2, (40, true)), (3, (30, false))]
theorem fr0 : Free [] 1 := ⟨by decide, fun i h1 h2 => by omega, rfl⟩
theorem fr1 : Free la0 2 := ⟨by decide, fun i h1 h2 => (show i = 1 by omega) ▸ rfl, rfl⟩
theorem fr2 : Free la1 3 := ⟨by decide, fun i h1 h2 => by
  rcases (show i = 1 ∨ i = 2 by omega) with rfl | rfl <;> rfl, rfl⟩
theorem fr3 : Free la3 2 := ⟨by decide, fun i h1 h2 => (show i = 1 by omega) ▸ rfl, rfl⟩
theorem goodA : Good la4 := ⟨by simp [MapL.Asc], fun p hp => by simp at hp; rcases hp with rfl | rfl | rfl <;> rfl, fun p hp => by simp at hp; rcases hp with rfl | rfl | rfl <;> decide⟩
set_option maxRecDepth 100000 in
set_option maxHeartbeats 4000000 in
theorem awake_c (w : World) : Calls Try.prog 10 #[] w fun e w' => e = .returned (.bool true) ∧ Keeps [] w w' := by
  go_enter Try.func10, Try.ntmps10
  go_wp2_with fail
  refine (new_c w).mono ?_
  rintro e w1 ⟨bt, bm, rfl, t1, hk1, _, hbm⟩
  replace t1 := Lib.hid t1
  go_wp2_with fail
  refine (add_c w1 bt bm [] 10 false t1.out (by simp)).mono ?_
  rintro e w2 ⟨n, rfl, hf, t2, hk2⟩
  obtain rfl := Free.uniq fr0 hf
  replace t2 : TM w2 bt bm la0 := t2
  replace hk2 := hk1.fresh hk2 (fun b hb => .inr (by simp at hb; omega))
  replace t2 := Lib.hid t2
  clear hf hk1 t1
  go_wp2_with fail
  refine (add_c w2 bt bm la0 20 true t2.out (by simp)).mono ?_
  rintro e w3 ⟨n, rfl, hf, t3, hk3⟩
  obtain rfl := Free.uniq fr1 hf
  replace t3 : TM w3 bt bm la1 := t3
  replace hk3 := hk2.fresh hk3 (fun b hb => .inr (by simp at hb; omega))
  replace t3 := Lib.hid t3
  clear hf hk2 t2
  go_wp2_with fail
  refine (add_c w3 bt bm la1 30 false t3.out (by simp)).mono ?_
  rintro e w4 ⟨n, rfl, hf, t4, hk4⟩
  obtain rfl := Free.uniq fr2 hf
  replace t4 : TM w4 bt bm la2 := t4
  replace hk4 := hk3.fresh hk4 (fun b hb => .inr (by simp at hb; omega))
  replace t4 := Lib.hid t4
  clear hf hk3 t3
  go_wp2_with fail
  refine (drop_c w4 bt bm la2 2 t4.out (by rfl)).mono ?_
  rintro e w5 ⟨rfl, t5, hk5⟩
  rw [show errL 2 la2 = 0 from rfl]
  replace t5 : TM w5 bt bm la3 := t5
  replace hk5 := hk4.fresh hk5 (fun b hb => .inr (by simp at hb; omega))
  replace t5 := Lib.hid t5
  clear hk4 t4
  go_wp2_with fail
  refine (add_c w5 bt bm la3 40 true t5.out (by simp)).mono ?_
  rintro e w6 ⟨n, rfl, hf, t6, hk6⟩
  obtain rfl := Free.uniq fr3 hf
  replace t6 : TM w6 bt bm la4 := t6
  replace hk6 := hk5.fresh hk6 (fun b hb => .inr (by simp at hb; omega))
  replace t6 := Lib.hid t6
  clear hf hk5 t5
  go_wp2_with fail
  refine (get_c w6 bt bm la4 2 t6.out (by rfl)).mono ?_
  rintro e w7 ⟨rfl, hk7⟩
  rw [show gW la4 2 = 40 from rfl, show (MapL.get 2 la4).isSome = true from rfl]
  have t7 := t6.out.keeps hk7
  replace hk7 := hk6.trans hk7
  replace t7 := Lib.hid t7
  clear hk6 t6
  go_wp2_with fail
  refine (weak_c w7 bt bm la4 2 t7.out (by rfl)).mono ?_
  rintro e w8 ⟨rfl, rfl⟩
  rw [show gB la4 2 = true from rfl]
  go_wp2_with fail
  refine (weak_c w7 bt bm la4 3 t7.out (by rfl)).mono ?_
  rintro e w8 ⟨rfl, rfl⟩
  rw [show gB la4 3 = false from rfl]
  go_wp2_with fail
  refine (encode_c w7 bt bm la4 t7.out goodA (fun p hp => by simp at hp; rcases hp with rfl | rfl | rfl <;> decide) (by simp)).mono ?_
  rintro e w8 ⟨v8, rfl, hB8, hk8⟩
  obtain ⟨a8, c8, rfl⟩ := hB8.form
  have hl8 : 0 < (encT la4).length := by simp [encT, encU]
  replace hk8 := hk7.trans hk8
  obtain ⟨M, hM⟩ : ∃ M, (encT la4).length = M := ⟨_, rfl⟩
  rw [hM] at hl8 ⊢
  replace hM := Lib.hid hM
  replace hB8 := Lib.hid hB8
  clear hk7
  go_wp2
  go_ret
  exact ⟨rfl, hk8⟩
end Go.Proofs.Ytmamlipgfkmcjaa

namespace Go.Proofs.Ytmamlipgfkmcjaa
open Go.RowKit Go.Maps
attribute [local go_sem] Oper.semAt_some

set_option maxRecDepth 100000 in
set_option maxHeartbeats 4000000 in
theorem ops_c (w : World) (v : Value) (l : List OpV) (h : shO.R w v l) (hok : ∀ o ∈ l, o.ok) :
    Calls Try.prog 4 #[v] w fun e w' => e = .returned (.bool true) ∧ Keeps [] w w' := by
  obtain ⟨a0, c0, rfl, hlc, hcm, _⟩ := h.form
  obtain ⟨M, hM⟩ : ∃ N, l.length = N := ⟨_, rfl⟩
  rw [hM] at hlc h ⊢
  have hMx : M ≤ 9223372036854775807 := by unfold Go.maxLen at hcm; omega
  replace hM := Lib.hid hM
  replace h := Lib.hid h
  replace hok := Lib.hid hok
  go_enter Try.func4, Try.ntmps4
  go_wp2_with fail
  refine (awake_c w).mono ?_
  rintro e w1 ⟨rfl, hk1⟩
  have h1 := h.out.keeps hk1
  replace hk1 := Lib.hid hk1
  replace h1 := Lib.hid h1
  by_cases hbig : 40 < M
  · go_wp2
    go_ret
    exact ⟨rfl, hk1.out⟩
  · go_wp2_with fail
    refine (run_c w1 _ l h1.out hok.out (by rw [hM.out]; omega)).mono ?_
    rintro e w2 ⟨bt, bm, v2, L, rfl, hG, hL, hp, t2, hr2, hk2, _, _⟩
    rw [hM.out] at hL
    have hk02 := hk1.out.trans hk2
    replace hk02 := Lib.hid hk02
    replace hG := Lib.hid hG
    replace hp := Lib.hid hp
    replace t2 := Lib.hid t2
    replace hr2 := Lib.hid hr2
    clear hk2
    go_wp2_with fail
    refine (tsame_c w2 bt bm L v2 t2.out hr2.out hG.out (by omega)).mono ?_
    rintro e w3 ⟨rfl, hk3⟩
    have hk03 := hk02.out.trans hk3
    replace hk03 := Lib.hid hk03
    clear hk3
    go_wp2
    go_ret
    exact ⟨rfl, hk03.out⟩
end Go.Proofs.Ytmamlipgfkmcjaa

namespace Go.Proofs.Ytmamlipgfkmcjaa
open Go.ChangeShapes Go.WideShapes Go.ChangeAt Go.RowKit

theorem w64_wf {x : Int} (h : (Lit.int .i64 x).wf = true) : W64 x := by simpa [W64, Lit.wf, IntKind.min, IntKind.max, IntKind.signed, IntKind.bits] using h
theorem u64_nat {x : Int} (h : (Lit.int .u64 x).wf = true) : ∃ n : Nat, x = n ∧ n < 18446744073709551616 := by
  have hb : 0 ≤ x ∧ x ≤ 18446744073709551615 := by simpa [Lit.wf, IntKind.min, IntKind.max, IntKind.signed, IntKind.bits] using h
  exact ⟨x.toNat, by omega, by omega⟩
def OpRel (w : World) (cs : List Value) (x : OpV) : Prop := cs = shO.cf x ∧ x.ok
set_option maxRecDepth 100000 in
set_option maxHeartbeats 1000000 in
theorem cs_op {w : World} {cs : List Value} (h : Gen.Cs Try.prog w 65 cs) : ∃ x, OpRel w cs x := by
  obtain ⟨hl, hall⟩ := Gen.Cs.struct Try.underlying65 h
  rw [show Try.prog.cellsOf 65 = 3 by kernel_rfl] at hl
  obtain ⟨a, b, c, rfl⟩ : ∃ a b c, cs = [a, b, c] := by
    match cs, hl with
    | [a, b, c], _ => exact ⟨a, b, c, rfl⟩
  have h0 := hall 0 _ rfl
  have h1 := hall 1 _ rfl
  have h2 := hall 2 _ rfl
  replace h0 : Gen.Cs Try.prog w 5 (([a, b, c].drop 0).take (Try.prog.cellsOf 5)) := h0
  replace h1 : Gen.Cs Try.prog w 3 (([a, b, c].drop 1).take (Try.prog.cellsOf 3)) := h1
  replace h2 : Gen.Cs Try.prog w 23 (([a, b, c].drop 2).take (Try.prog.cellsOf 23)) := h2
  rw [show Try.prog.cellsOf 5 = 1 by kernel_rfl] at h0
  rw [show Try.prog.cellsOf 3 = 1 by kernel_rfl] at h1
  rw [show Try.prog.cellsOf 23 = 1 by kernel_rfl] at h2
  obtain ⟨k, hk, wk⟩ := Gen.Cs.int Try.underlying5 h0
  obtain ⟨A, hA, wA⟩ := Gen.Cs.int Try.underlying3 h1
  obtain ⟨B, hB, wB⟩ := Gen.Cs.int Try.underlying23 h2
  simp at hk hA hB
  subst hk hA hB
  have hb : 0 ≤ k ∧ k ≤ 255 := by simpa [Lit.wf, IntKind.min, IntKind.max, IntKind.signed, IntKind.bits] using wk
  obtain ⟨n, rfl, hn⟩ := u64_nat wB
  obtain ⟨m, rfl⟩ : ∃ m : Nat, k = m := ⟨k.toNat, by omega⟩
  exact ⟨⟨m, A, n⟩, rfl, by show m < 256; omega, w64_wf wA, hn⟩
set_option maxRecDepth 100000 in
set_option maxHeartbeats 1000000 in
theorem open_ops {H : Type} {enc : TypeId × Value → H} {W : World} {base : Nat} {r : Reach} {v : Value} {d : DataW H} {ps : List MemPlace} (hv : Value.okWide Try.prog W r base 22 v)
    (h : DataW.Trod enc Try.prog W 0 (fun _ => true) true 22 v d ps) : ∃ L, shO.R W v L ∧ ∀ o ∈ L, o.ok := by
  obtain ⟨a0, n0, c0, rfl⟩ := okWide_slice Try.underlying22 hv
  obtain ⟨L, hL, _⟩ := Gen.SlR.open (R := OpRel) Try.underlying22 (show Try.prog.cellsOf 65 = 3 by kernel_rfl) (by decide) (fun cs hcs => cs_op hcs) (Gen.Cs.of_trod rfl h)
  refine ⟨L, Sh.R.of_slR (fun _ _ h => h.1) hL, fun o ho => ?_⟩
  obtain ⟨cs, _, h2⟩ := hL
  obtain ⟨k, hk, rfl⟩ := List.mem_iff_getElem.1 ho
  exact (h2 k hk).2
end Go.Proofs.Ytmamlipgfkmcjaa
