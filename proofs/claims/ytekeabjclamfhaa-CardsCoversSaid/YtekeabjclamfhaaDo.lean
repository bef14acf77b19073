/- The run of operations on a table and on its model. -/
import Derived.Test.YtekeabjclamfhaaRefMark2
import Derived.Test.YtekeabjclamfhaaSorted
import Derived.Laws.Closers25
namespace Go.Proofs.Ytekeabjclamfhaa
open Go.RowKit Go.Maps

structure OpM where
  k : Int
  a : Int
def OpM.cells (o : OpM) : List Value := [.int .u8 o.k, .int .i64 o.a]
def SlOps (w : World) (v : Value) (l : List OpM) : Prop := Sl w 2 v l.length (l.flatMap OpM.cells)

theorem ops_cells : ∀ (l : List OpM) (k : Nat) (h : k < l.length), (l.flatMap OpM.cells)[k * 2]? = some (.int .u8 l[k].k) ∧ (l.flatMap OpM.cells)[k * 2 + 1]? = some (.int .i64 l[k].a)
  | [], k, h => by simp at h
  | o :: r, 0, h => by simp [OpM.cells]
  | o :: r, k + 1, h => by
    have := ops_cells r k (by simpa using h)
    have e1 : (k + 1) * 2 = k * 2 + 2 := by omega
    have e2 : (k + 1) * 2 + 1 = (k * 2 + 1) + 2 := by omega
    simp only [List.flatMap_cons, OpM.cells, List.cons_append, List.nil_append, e1, e2, List.getElem?_cons_succ, List.getElem_cons_succ]
    exact this

theorem SlOps.cases {w : World} {v : Value} {l : List OpM} (h : SlOps w v l) :
    (l = [] ∧ ∃ a cap, v = .slice a 0 cap) ∨
    ∃ g o cap, v = .slice (some ⟨g, o, none⟩) l.length cap ∧ l.length ≤ cap ∧ cap ≤ maxLen ∧ 0 < l.length ∧ g < w.heap.size ∧
      ∀ k (hk : k < l.length), w.cell? ⟨g, o + k * 2, none⟩ = some (.int .u8 l[k].k) ∧ w.cell? ⟨g, o + k * 2 + 1, none⟩ = some (.int .i64 l[k].a) := by
  obtain ⟨h1, a, cap, rfl, h2, h3, _, h4⟩ := h
  by_cases hl : l = []
  · subst hl; exact .inl ⟨rfl, a, cap, rfl⟩
  · have hp : 0 < l.length := List.length_pos_iff.2 hl
    obtain ⟨g, o, rfl, hc⟩ := h4 (by rw [h1]; omega)
    have hcell : ∀ k (hk : k < l.length), w.cell? ⟨g, o + k * 2, none⟩ = some (.int .u8 l[k].k) ∧ w.cell? ⟨g, o + k * 2 + 1, none⟩ = some (.int .i64 l[k].a) := fun k hk =>
      ⟨hc _ _ (ops_cells l k hk).1, by have := hc _ _ (ops_cells l k hk).2; rwa [← Nat.add_assoc] at this⟩
    exact .inr ⟨g, o, cap, rfl, h2, h3, hp, lt_of_cell (hcell 0 hp).1, hcell⟩

def doStep (S : List Int) (o : OpM) : List Int := if o.k % 8 = 1 then [] else if o.k % 8 = 2 then S else if o.k % 8 = 3 then S else markS o.a S
def doS (l : List OpM) : List Int := l.foldl doStep []
theorem doS_succ (l : List OpM) (k : Nat) (h : k < l.length) : doS (l.take (k + 1)) = doStep (doS (l.take k)) l[k] := by
  unfold doS
  rw [List.take_succ_eq_append_getElem h, List.foldl_append]
  rfl

/-- What holds between two operations: the table has the keys `S1`, the model's variable the list `S2`. -/
def St (w W : World) (M R : Nat) (t v : Value) (S1 S2 : List Int) : Prop :=
  ∃ bt bm, t = .pointer (some ⟨bt, 0, none⟩) ∧ Tab W bt bm S1 ∧ w.heap.size ≤ bt ∧ w.heap.size ≤ bm ∧ SlI W v S2 ∧ (S2 = [] → v = .slice none 0 0) ∧
    W.heap[M]? = some (.cells #[v] 27 (0, 0)) ∧ W.heap[R]? = some (.cells #[.slice none 0 0] 27 (0, 0)) ∧ Keeps [] w W
theorem St.keep {w W W' : World} {M R : Nat} {t v : Value} {S1 S2 : List Int} (h : St w W M R t v S1 S2) (hk : Keeps [] W W') : St w W' M R t v S1 S2 := by
  obtain ⟨bt, bm, rfl, hT, h1, h2, hs, hn, hM, hR, hk0⟩ := h
  exact ⟨bt, bm, rfl, hT.keep hk (by simp) (by simp), h1, h2, hs.keeps hk, hn, (hk.block _ (lt_of_block hM) (by simp)).trans hM, (hk.block _ (lt_of_block hR) (by simp)).trans hR, hk0.trans hk⟩
/-- A block of one cell is no map. -/
theorem ne_map {W : World} {M bm : Nat} {v : Value} {t : TypeId} {H : Type} {P : Program} {k : TypeId} {R : Value → Option (DataW H × List MemPlace)} {n : Nat} {D : DataW H} (hM : W.heap[M]? = some (.cells #[v] t (0, 0))) (h : W.ownsMap P k R bm n D) : M ≠ bm := fun e => by
  subst e
  have := cell_of_one hM
  rw [owns_no_cells h] at this
  cases this
theorem SlI.setM {W : World} {M : Nat} {v u : Value} {a : Option Addr} {n c : Nat} {t : TypeId} {S : List Int} (h : SlI W v S) (hM : W.heap[M]? = some (.cells #[.slice a n c] t (0, 0))) : SlI (W.setCell ⟨M, 0, none⟩ u) v S := by
  obtain ⟨h1, a', cap, rfl, h2, h3, h0, h4⟩ := h
  refine ⟨h1, a', cap, rfl, h2, h3, h0, fun hp => ?_⟩
  obtain ⟨g, o, rfl, hc⟩ := h4 hp
  refine ⟨g, o, rfl, fun j x hj => ?_⟩
  have hcj := hc j x hj
  have hx : ∃ z, x = .int .i64 z := by
    have := List.mem_of_getElem? hj
    obtain ⟨z, _, rfl⟩ := List.mem_map.1 this
    exact ⟨z, rfl⟩
  obtain ⟨z, rfl⟩ := hx
  have hne : g ≠ M := fun e => by
    subst e
    have e2 : W.cell? ⟨g, o + j, none⟩ = (#[Value.slice a n c])[o + j]? := by simp [World.cell?, hM]
    rw [hcj] at e2
    cases hoj : o + j with
    | zero => rw [hoj] at e2; simp at e2
    | succ m => rw [hoj] at e2; simp at e2
  rw [World.cell?_of_block (w := W) (a := ⟨g, o + j, none⟩) (Below.heap_setCell _ _ _ _ hne)]
  exact hcj
theorem Tab.setM {W : World} {M bt bm : Nat} {u : Value} {a : Option Addr} {n c : Nat} {t : TypeId} {S : List Int} (h : Tab W bt bm S) (hM : W.heap[M]? = some (.cells #[.slice a n c] t (0, 0))) : Tab (W.setCell ⟨M, 0, none⟩ u) bt bm S := by
  have hne : bt ≠ M := fun e => by
    subst e
    have := cell_of_one hM
    rw [h.cell] at this
    cases this
  have hne2 : bm ≠ M := fun e => ne_map hM h.own e.symm
  refine ⟨by rw [World.cell?_of_block (w := W) (a := ⟨bt, 0, none⟩) (Below.heap_setCell _ _ _ _ hne)]; exact h.cell, ?_, h.asc, h.rng⟩
  obtain ⟨es, cl, hb, r⟩ := h.own
  exact ⟨es, cl, (Below.heap_setCell _ _ _ _ hne2).trans hb, r⟩

def F25 (S : List Int) : Nat → Value → World → Prop
  | 1, v, W => SlI W v S
  | 4, v, _ => v = .bool true
  | _, _, _ => True
theorem keeps_none {W W' : World} {T : Nat → Prop} (h : Free.KeepsP T W W') (hT : ∀ b, ¬ T b) : Keeps [] W W' := ⟨h.os, h.tape, h.output, h.size, fun k hk _ => h.block k hk (hT k)⟩
theorem keeps_of_none {ops : Array Oper} {i : Nat} {W W' : World} (h : Free.KeepsP (Free.sx ops (fun _ _ => False) i) W.drew W') : Keeps [] W W' := by
  have := keeps_none h (fun b hb => by obtain ⟨_, _, _, hf⟩ := hb; exact hf)
  exact ((Keeps.refl [] W).drew).trans this
theorem keeps_of_none' {W W' : World} (h : Free.KeepsP (Free.sa (fun _ _ => False)) W.drew W') : Keeps [] W W' := by
  have := keeps_none h (fun b hb => by obtain ⟨_, hf⟩ := hb; exact hf)
  exact ((Keeps.refl [] W).drew).trans this
theorem st25 (S : List Int) {ops : Array Oper} : ∀ i k v w w', (i == 1 || i == 4) = true → i ≠ k → false = false → Free.pre ops k i = false → F25 S i v w → Free.KeepsP (fun _ => False) w w' → F25 S i v w' := by
  intro i k v w w' hi _ _ _ hF hK
  have hi : i = 1 ∨ i = 4 := by simpa using hi
  rcases hi with rfl | rfl
  · exact Sl.keeps hF (keeps_none hK (fun _ h => h))
  · exact hF

theorem ptr_inj {a b : Nat} (h : Value.pointer (some ⟨a, 0, none⟩) = .pointer (some ⟨b, 0, none⟩)) : b = a := by simp at h; exact h.symm
theorem St.set {w W : World} {M bt bm n c : Nat} {a : Option Addr} {v' : Value} {S1 S2 : List Int} (hT : Tab W bt bm S1) (hb : w.heap.size ≤ bt ∧ w.heap.size ≤ bm) (hs : SlI W v' S2) (hn : S2 = [] → v' = .slice none 0 0)
    (hM : W.heap[M]? = some (.cells #[.slice a n c] 27 (0, 0))) (hR : W.heap[w.heap.size]? = some (.cells #[.slice none 0 0] 27 (0, 0))) (hk : Keeps [] w W) (hMl : w.heap.size < M) :
    St w (W.setCell ⟨M, 0, none⟩ v') M w.heap.size (.pointer (some ⟨bt, 0, none⟩)) v' S1 S2 :=
  ⟨bt, bm, rfl, hT.setM hM, hb.1, hb.2, hs.setM hM, hn, one_setCell hM, (Below.heap_setCell _ _ _ _ (by simp; omega)).trans hR, hk.setCell (.inl (Nat.le_of_lt hMl)) _⟩
theorem f11_results : Try.f11.results = #[.tmp 2, .cell 3 27, .tmp 4] := by kernel_rfl
theorem fin_do {w W : World} {bt bm : Nat} {v : Value} {S S' : List Int} (hb : w.heap.size ≤ bt ∧ w.heap.size ≤ bm) (h : Tab W bt bm S ∧ SlI W v S ∧ Keeps [] w W) (e : S = S') :
    ∃ bt' bm' v', Ending.returned (.tuple #[.pointer (some ⟨bt, 0, none⟩), .agg #[v], .bool true]) = .returned (.tuple #[.pointer (some ⟨bt', 0, none⟩), .agg #[v'], .bool true]) ∧ Tab W.drew bt' bm' S' ∧ w.heap.size ≤ bt' ∧ w.heap.size ≤ bm' ∧ SlI W.drew v' S' ∧ Keeps [] w W.drew := by
  subst e
  have hk := (Keeps.refl [] W).drew
  exact ⟨bt, bm, v, rfl, h.1.keep hk (by simp) (by simp), hb.1, hb.2, h.2.1.keeps hk, h.2.2.drew⟩
set_option maxHeartbeats 4000000 in
theorem do_c (w : World) (v0 : Value) (l : List OpM) (h : SlOps w v0 l) (hlen : l.length ≤ 1000) (hkd : ∀ o ∈ l, 0 ≤ o.k ∧ o.k < 256) :
    Calls Try.prog 11 #[v0] w fun e w' => ∃ bt bm v', e = .returned (.tuple #[.pointer (some ⟨bt, 0, none⟩), .agg #[v'], .bool true]) ∧ Tab w' bt bm (doS l) ∧ w.heap.size ≤ bt ∧ w.heap.size ≤ bm ∧
      SlI w' v' (doS l) ∧ Keeps [] w w' := by
  have hh := Lib.hid h
  have hkd := Lib.hid hkd
  rcases h.cases with ⟨rfl, a0, c0, rfl⟩ | ⟨g0, o0, c0, rfl, hn0, hm0, hp0, hg0, hc0⟩
  · clear h
    go_enter Try.func11, Try.ntmps11
    go_wp2_with (go_at_call 16; refine (new_c _).mono ?_; rintro e w1 ⟨bt, bm, rfl, hT1, hk1, hb1, hb2⟩; have hz := hk1.size; simp at hz hb1 hb2; have hz0 : w.heap.size < w1.heap.size := (by omega))
    have hst0 : St w (w1.alloc (.cells #[.slice none 0 0] 27)) w1.heap.size w.heap.size (.pointer (some ⟨bt, 0, none⟩)) (.slice none 0 0) [] [] :=
      ⟨bt, bm, rfl, hT1.keep ((Keeps.refl [] _).alloc _) (by simp) (by simp), by omega, by omega, Sl.nil _ _, fun _ => rfl, heap_alloc_new _ _, (Below.heap_alloc _ _ _ hz0).trans ((hk1.block _ (by simp) (by simp)).trans (heap_alloc_new _ _)), (((Keeps.refl [] w).alloc _).trans hk1).alloc _⟩
    clear hT1 hk1 hb1 hb2
    have hz0 := Lib.hid hz0
    generalize w1.heap.size = M at *
    go_loopw [5, 20] (fun t i wr => ∃ (k : Nat) (v : Value), k ≤ ([] : List OpM).length ∧ i = .int .i64 k ∧ St w wr M w.heap.size t v (doS (([] : List OpM).take k)) (doS (([] : List OpM).take k))) (fun _ i _ => ([] : List OpM).length - (Go.RowKit.intOf i).toNat)
    case atStart => exact ⟨0, _, by omega, rfl, hst0⟩
    case round =>
      obtain ⟨k, v, hk, rfl, hst⟩ := hrel
      obtain ⟨S, hSS⟩ : ∃ S, S = doS (([] : List OpM).take k) := ⟨_, rfl⟩
      rw [← hSS] at hst
      replace hSS := Lib.hid hSS
      have hst1 := hst
      obtain ⟨bt, bm, rfl, hT, hb1, hb2, hs, hn, hM, hR, hkw⟩ := hst
      obtain ⟨va, vc, rfl⟩ := hs.form
      have cM := cell_of_one hM
      have fM := free_of_one hM
      have cR := cell_of_one hR
      have fR := free_of_one hR
      have lM := lt_of_block hM
      have lR := lt_of_block hR
      have hneM := ne_map hM hT.own
      have hneR := ne_map hR hT.own
      have lbm := hT.lt.2

      by_cases hlt : k < ([] : List OpM).length
      · simp at hlt
      · have hke : k = ([] : List OpM).length := by omega
        have hSl : Hid (S = doS []) := by
          show S = doS []
          rw [hSS.out, hke, List.take_length]
        have hneq : ¬ w.heap.size = M := by have := hz0.out; omega
        have hfin : Hid (Tab (wr.setCell ⟨w.heap.size, 0, none⟩ (.slice va S.length vc)) bt bm S ∧ SlI (wr.setCell ⟨w.heap.size, 0, none⟩ (.slice va S.length vc)) (.slice va S.length vc) S ∧ Keeps [] w (wr.setCell ⟨w.heap.size, 0, none⟩ (.slice va S.length vc))) :=
          ⟨hT.setM hR, hs.setM hR, hkw.setCell (.inl (Nat.le_refl _)) _⟩
        have hbb := Lib.hid (And.intro hb1 hb2)
        clear hst1 hneM hneR lbm hM hR hT hs hn hkw hb1 hb2
        go_wp2
        go_region
        all_goals go_wp2
        all_goals exact bodyPost_ret (v := .tuple #[.pointer (some ⟨bt, 0, none⟩), .agg #[.slice va S.length vc], .bool true]) (by simp [results, f11_results, go_sem, cR]) rfl (fin_do hbb.out hfin.out hSl.out)

  · clear h
    go_enter Try.func11, Try.ntmps11
    go_wp2_with (go_at_call 16; refine (new_c _).mono ?_; rintro e w1 ⟨bt, bm, rfl, hT1, hk1, hb1, hb2⟩; have hz := hk1.size; simp at hz hb1 hb2; have hz0 : w.heap.size < w1.heap.size := (by omega))
    have hst0 : St w (w1.alloc (.cells #[.slice none 0 0] 27)) w1.heap.size w.heap.size (.pointer (some ⟨bt, 0, none⟩)) (.slice none 0 0) [] [] :=
      ⟨bt, bm, rfl, hT1.keep ((Keeps.refl [] _).alloc _) (by simp) (by simp), by omega, by omega, Sl.nil _ _, fun _ => rfl, heap_alloc_new _ _, (Below.heap_alloc _ _ _ hz0).trans ((hk1.block _ (by simp) (by simp)).trans (heap_alloc_new _ _)), (((Keeps.refl [] w).alloc _).trans hk1).alloc _⟩
    clear hT1 hk1 hb1 hb2
    have hz0 := Lib.hid hz0
    generalize w1.heap.size = M at *
    go_loopw [5, 20] (fun t i wr => ∃ (k : Nat) (v : Value), k ≤ l.length ∧ i = .int .i64 k ∧ St w wr M w.heap.size t v (doS (l.take k)) (doS (l.take k))) (fun _ i _ => l.length - (Go.RowKit.intOf i).toNat)
    case atStart => exact ⟨0, _, by omega, rfl, hst0⟩
    case round =>
      obtain ⟨k, v, hk, rfl, hst⟩ := hrel
      obtain ⟨S, hSS⟩ : ∃ S, S = doS (l.take k) := ⟨_, rfl⟩
      rw [← hSS] at hst
      replace hSS := Lib.hid hSS
      have hst1 := hst
      obtain ⟨bt, bm, rfl, hT, hb1, hb2, hs, hn, hM, hR, hkw⟩ := hst
      obtain ⟨va, vc, rfl⟩ := hs.form
      have cM := cell_of_one hM
      have fM := free_of_one hM
      have cR := cell_of_one hR
      have fR := free_of_one hR
      have lM := lt_of_block hM
      have lR := lt_of_block hR
      have hneM := ne_map hM hT.own
      have hneR := ne_map hR hT.own
      have lbm := hT.lt.2

      by_cases hlt : k < l.length
      · -- a round
        have hko := hkd.out l[k] (List.getElem_mem _)
        have hcw := hc0 k hlt
        have hgw := hkw.val hcw.1
        have hgw2 := hkw.val hcw.2
        clear hcw
        generalize hkk : l[k].k = kd at *
        generalize haa : l[k].a = aa at *
        replace hkk := Lib.hid hkk
        replace haa := Lib.hid haa
        have hbox : Keeps [] wr (wr.alloc (.cells #[.int .u8 kd, .int .i64 aa] 48)) := (Keeps.refl [] _).alloc _
        have hlast : doS (l.take (k + 1)) = doStep (doS (l.take k)) l[k] := doS_succ l k hlt
        rw [← hSS.out] at hlast
        replace hlast := Lib.hid hlast
        have hTb := Lib.hid (hT.keep hbox (by simp) (by simp))
        have hsb := Lib.hid (hs.keeps hbox)
        have hnb := Lib.hid hn
        have hMb : Hid ((wr.alloc (.cells #[.int .u8 kd, .int .i64 aa] 48)).heap[M]? = _) := (hbox.block _ lM (by simp)).trans hM
        have hRb : Hid ((wr.alloc (.cells #[.int .u8 kd, .int .i64 aa] 48)).heap[w.heap.size]? = _) := (hbox.block _ lR (by simp)).trans hR
        have hkb := Lib.hid (hkw.trans hbox)
        have hbb := Lib.hid (And.intro hb1 hb2)
        have hxc : (wr.alloc (.cells #[.int .u8 kd, .int .i64 aa] 48)).cell? ⟨wr.heap.size, 1, none⟩ = some (.int .i64 aa) := by simp
        replace hxc := Lib.hid hxc
        clear hst1 hT hs hn hM hR hkw hbox hb1 hb2
        by_cases e1 : kd % 8 = 1
        · have x1 : (kd % 8 == 1) = true := by simp [e1]
          have hS' : Hid (doS (l.take (k + 1)) = []) := by
            show doS _ = []
            rw [hlast.out]; simp [doStep, hkk.out, e1]
          clear e1
          go_wp2_with (go_at_call 19; refine (clear_c _ bt bm S hTb.out).mono ?_; rintro e w2 ⟨rfl, hT2, hk2⟩; have hM2 := (hk2.block M (lt_of_block hMb.out) (by simpa using hneM)).trans hMb.out; have cM2 := cell_of_one hM2; have fM2 := free_of_one hM2)
          have hst := St.set (w := w) (S2 := []) (v' := .slice none 0 0) hT2 hbb.out (show SlI w2 (.slice none 0 0) [] from Sl.nil w2 1) (fun _ => rfl) hM2 ((hk2.block _ (lt_of_block hRb.out) (by simpa using hneR)).trans hRb.out) (hkb.out.fresh hk2 (fun x hx => by simp at hx; subst hx; exact .inr hbb.out.2)) hz0.out
          clear hT2 hk2 hM2 cM2 fM2 x1 cM fM cR fR hTb hsb hnb hMb hRb hkb hbb hxc hgw hgw2 hneM hneR
          generalize w2.setCell ⟨M, 0, none⟩ (.slice none 0 0) = W at hst ⊢
          obtain ⟨bt', bm', hpe, hT', hb1', hb2', hs', hn', hM', hR', hk'⟩ := hst
          have hpe2 : bt' = bt := ptr_inj hpe
          clear hpe
          subst hpe2
          have cM' := cell_of_one hM'
          have lM' := lt_of_block hM'
          have hst' : St w W M w.heap.size (.pointer (some ⟨bt', 0, none⟩)) (.slice none 0 0) ([]) ([]) := ⟨bt', bm', rfl, hT', hb1', hb2', hs', hn', hM', hR', hk'⟩
          clear hn' hM' hR' hk' hb1' hb2'
          refine Free.wp_region_free (by kernel_rfl) (by kernel_rfl) (fun i => i == 1 || i == 4) (F25 ([])) (fun _ _ => False) (fun _ _ => false) (st25 ([])) ?_
          apply Free.walk_quiet rfl rfl
          · intro w' hg hf; clear hf
            go_simp <;> exact rfl
          apply Free.walk_loud rfl rfl
          · intro w' hg hf
            have hkk := keeps_of_none hg
            clear hf hg
            go_simp
            refine (cards_c _ bt' bm' ([]) (hT'.keep hkk (by simp) (by simp))).mono ?_
            rintro e w2 ⟨vv, rfl, hv, hkv⟩
            exact ⟨vv, rfl, hv, Free.KeepsP.of hkv (by simp)⟩
          intro vcr
          apply Free.walk_quiet rfl rfl
          · intro w' hg hf; clear hf
            go_simp <;> exact rfl
          apply Free.walk_quiet rfl rfl
          · intro w' hg hf; clear hf
            have hT2 := ((keeps_of_none hg).cell0 M 0 lM').trans cM'
            go_simp <;> exact rfl
          apply Free.walk_loud rfl rfl
          · intro w' hg hf
            have hvc : SlI w' vcr ([]) := by simpa [F25] using hf 1 (by decide) (by kernel_rfl)
            have hkk := keeps_of_none hg
            clear hf hg
            go_simp
            refine (same_c _ vcr (.slice none 0 0) ([]) ([]) hvc (hs'.keeps hkk)).mono ?_
            rintro e w2 ⟨rfl, hkv⟩
            exact ⟨_, rfl, by simp [F25], Free.KeepsP.of hkv (by simp)⟩
          intro vb
          refine Free.walk_quiet (c := .bool false) rfl rfl ?_ ?_
          · intro w' hg hf
            have hvb : vb = .bool true := by simpa [F25] using hf 4 (by decide) (by kernel_rfl)
            clear hf hg
            go_simp
          refine Free.walk_nil ?_
          intro w3 hg hf
          have hk3 := keeps_of_none' hg
          clear hf hg
          have hst3 := hst'.keep hk3
          clear hst' hT' hs' cM' lM'
          replace hst3 := Lib.hid hst3
          go_frame
          go_wp2
          go_roundw
          case rel => exact ⟨k + 1, _, by omega, by go_num, by rw [hS'.out]; exact hst3.out⟩
          case measure => simp [Go.RowKit.intOf]; omega
        by_cases e2 : kd % 8 = 2
        · have x1 : (kd % 8 == 1) = false := by simp [e2]
          have x2 : (kd % 8 == 2) = true := by simp [e2]
          have hS' : Hid (doS (l.take (k + 1)) = S) := by
            show doS _ = S
            rw [hlast.out]; simp [doStep, hkk.out, e2]
          clear e1 e2
          go_wp2_with (first
            | (go_at_call 21; refine (clone_c _ bt bm S hTb.out).mono ?_; rintro e w2 ⟨bt2, bm2, rfl, hT2, hk2, hf1, hf2⟩)
            | (go_at_call 19; refine (clear_c _ bt bm S (hTb.out.keep hk2 (by simp) (by simp))).mono ?_; rintro e W ⟨rfl, hT3, hk3⟩))
          have hlb := hTb.out.lt
          have hst : St w W M w.heap.size (.pointer (some ⟨bt2, 0, none⟩)) (.slice va S.length vc) S S :=
            ⟨bt2, bm2, rfl, hT2.keep hk3 (by simp; omega) (by simp; omega), by have := hkb.out.size; omega, by have := hkb.out.size; omega, (hsb.out.keeps hk2).keeps_map hk3 (owns_no_cells (hTb.out.keep hk2 (by simp) (by simp)).own), hnb.out,
              (hk3.block M (lt_of_block ((hk2.block M (lt_of_block hMb.out) (by simp)).trans hMb.out)) (by simpa using hneM)).trans ((hk2.block M (lt_of_block hMb.out) (by simp)).trans hMb.out),
              (hk3.block _ (lt_of_block ((hk2.block _ (lt_of_block hRb.out) (by simp)).trans hRb.out)) (by simpa using hneR)).trans ((hk2.block _ (lt_of_block hRb.out) (by simp)).trans hRb.out),
              (hkb.out.trans hk2).fresh hk3 (fun x hx => by simp at hx; subst hx; exact .inr hbb.out.2)⟩
          clear hT2 hk2 hT3 hk3 hf1 hf2 hlb x1 x2 cM fM cR fR hTb hsb hnb hMb hRb hkb hbb hxc hgw hgw2 hneM hneR
          obtain ⟨bt', bm', hpe, hT', hb1', hb2', hs', hn', hM', hR', hk'⟩ := hst
          have hpe2 : bt' = bt2 := ptr_inj hpe
          clear hpe
          subst hpe2
          have cM' := cell_of_one hM'
          have lM' := lt_of_block hM'
          have hst' : St w W M w.heap.size (.pointer (some ⟨bt', 0, none⟩)) (.slice va S.length vc) (S) (S) := ⟨bt', bm', rfl, hT', hb1', hb2', hs', hn', hM', hR', hk'⟩
          clear hn' hM' hR' hk' hb1' hb2'
          refine Free.wp_region_free (by kernel_rfl) (by kernel_rfl) (fun i => i == 1 || i == 4) (F25 (S)) (fun _ _ => False) (fun _ _ => false) (st25 (S)) ?_
          apply Free.walk_quiet rfl rfl
          · intro w' hg hf; clear hf
            go_simp <;> exact rfl
          apply Free.walk_loud rfl rfl
          · intro w' hg hf
            have hkk := keeps_of_none hg
            clear hf hg
            go_simp
            refine (cards_c _ bt' bm' (S) (hT'.keep hkk (by simp) (by simp))).mono ?_
            rintro e w2 ⟨vv, rfl, hv, hkv⟩
            exact ⟨vv, rfl, hv, Free.KeepsP.of hkv (by simp)⟩
          intro vcr
          apply Free.walk_quiet rfl rfl
          · intro w' hg hf; clear hf
            go_simp <;> exact rfl
          apply Free.walk_quiet rfl rfl
          · intro w' hg hf; clear hf
            have hT2 := ((keeps_of_none hg).cell0 M 0 lM').trans cM'
            go_simp <;> exact rfl
          apply Free.walk_loud rfl rfl
          · intro w' hg hf
            have hvc : SlI w' vcr (S) := by simpa [F25] using hf 1 (by decide) (by kernel_rfl)
            have hkk := keeps_of_none hg
            clear hf hg
            go_simp
            refine (same_c _ vcr (.slice va S.length vc) (S) (S) hvc (hs'.keeps hkk)).mono ?_
            rintro e w2 ⟨rfl, hkv⟩
            exact ⟨_, rfl, by simp [F25], Free.KeepsP.of hkv (by simp)⟩
          intro vb
          refine Free.walk_quiet (c := .bool false) rfl rfl ?_ ?_
          · intro w' hg hf
            have hvb : vb = .bool true := by simpa [F25] using hf 4 (by decide) (by kernel_rfl)
            clear hf hg
            go_simp
          refine Free.walk_nil ?_
          intro w3 hg hf
          have hk3 := keeps_of_none' hg
          clear hf hg
          have hst3 := hst'.keep hk3
          clear hst' hT' hs' cM' lM'
          replace hst3 := Lib.hid hst3
          go_frame
          go_wp2
          go_roundw
          case rel => exact ⟨k + 1, _, by omega, by go_num, by rw [hS'.out]; exact hst3.out⟩
          case measure => simp [Go.RowKit.intOf]; omega
        by_cases e3 : kd % 8 = 3
        · have x1 : (kd % 8 == 1) = false := by simp [e3]
          have x2 : (kd % 8 == 2) = false := by simp [e3]
          have x3 : (kd % 8 == 3) = true := by simp [e3]
          have hS' : Hid (doS (l.take (k + 1)) = S) := by
            show doS _ = S
            rw [hlast.out]; simp [doStep, hkk.out, e3]
          clear e1 e2 e3
          have fin3 : ∀ w2 w3 bt2 bm2, Keeps [] (wr.alloc (.cells #[.int .u8 kd, .int .i64 aa] 48)) w2 → Keeps [bm2] w2 w3 → (wr.alloc (.cells #[.int .u8 kd, .int .i64 aa] 48)).heap.size ≤ bt2 → (wr.alloc (.cells #[.int .u8 kd, .int .i64 aa] 48)).heap.size ≤ bm2 → St w w3 M w.heap.size (.pointer (some ⟨bt, 0, none⟩)) (.slice va S.length vc) S S := by
            intro w2 w3 bt2 bm2 hk2 hk3 hf1 hf2
            have hk23 : Keeps [] (wr.alloc (.cells #[.int .u8 kd, .int .i64 aa] 48)) w3 := hk2.fresh hk3 (fun x hx => by simp at hx; subst hx; exact .inr hf2)
            exact ⟨bt, bm, rfl, hTb.out.keep hk23 (by simp) (by simp), hbb.out.1, hbb.out.2, hsb.out.keeps hk23, hnb.out, (hk23.block _ (lt_of_block hMb.out) (by simp)).trans hMb.out, (hk23.block _ (lt_of_block hRb.out) (by simp)).trans hRb.out, hkb.out.trans hk23⟩
          replace fin3 := Lib.hid fin3
          cases ho : oldB aa
          · replace ho := Lib.hid ho
            have hmc : markC aa = 2 := by simp [markC, ho.out]
            replace hmc := Lib.hid hmc
            go_wp2_with (first
              | (go_at_call 21; refine (clone_c _ bt bm S hTb.out).mono ?_; rintro e w2 ⟨bt2, bm2, rfl, hT2, hk2, hf1, hf2⟩; have hx2 := hk2.val hxc.out)
              | (go_at_call 17; refine (mark_c aa _ bt2 bm2 S hT2).mono ?_; rw [hmc.out]; rintro e W ⟨rfl, hT3, hk3⟩; have hx3 := (hk3.cell _ 1 (lt_of_cell hx2) (by simp at hf2; simp; omega)).trans hx2)
              | (go_at_call 22; refine (oldr_c _ _).mono ?_; rw [ho.out]; rintro e w' ⟨rfl, rfl⟩))
            have hst := fin3.out _ _ _ _ hk2 hk3 hf1 hf2
            clear hT2 hk2 hT3 hk3 hf1 hf2 hx2 hx3 x1 x2 x3 cM fM cR fR hTb hsb hnb hMb hRb hkb hbb hxc hgw hgw2 hneM hneR fin3
            obtain ⟨bt', bm', hpe, hT', hb1', hb2', hs', hn', hM', hR', hk'⟩ := hst
            have hpe2 : bt' = bt := ptr_inj hpe
            clear hpe
            subst hpe2
            have cM' := cell_of_one hM'
            have lM' := lt_of_block hM'
            have hst' : St w W M w.heap.size (.pointer (some ⟨bt', 0, none⟩)) (.slice va S.length vc) (S) (S) := ⟨bt', bm', rfl, hT', hb1', hb2', hs', hn', hM', hR', hk'⟩
            clear hn' hM' hR' hk' hb1' hb2'
            refine Free.wp_region_free (by kernel_rfl) (by kernel_rfl) (fun i => i == 1 || i == 4) (F25 (S)) (fun _ _ => False) (fun _ _ => false) (st25 (S)) ?_
            apply Free.walk_quiet rfl rfl
            · intro w' hg hf; clear hf
              go_simp <;> exact rfl
            apply Free.walk_loud rfl rfl
            · intro w' hg hf
              have hkk := keeps_of_none hg
              clear hf hg
              go_simp
              refine (cards_c _ bt' bm' (S) (hT'.keep hkk (by simp) (by simp))).mono ?_
              rintro e w2 ⟨vv, rfl, hv, hkv⟩
              exact ⟨vv, rfl, hv, Free.KeepsP.of hkv (by simp)⟩
            intro vcr
            apply Free.walk_quiet rfl rfl
            · intro w' hg hf; clear hf
              go_simp <;> exact rfl
            apply Free.walk_quiet rfl rfl
            · intro w' hg hf; clear hf
              have hT2 := ((keeps_of_none hg).cell0 M 0 lM').trans cM'
              go_simp <;> exact rfl
            apply Free.walk_loud rfl rfl
            · intro w' hg hf
              have hvc : SlI w' vcr (S) := by simpa [F25] using hf 1 (by decide) (by kernel_rfl)
              have hkk := keeps_of_none hg
              clear hf hg
              go_simp
              refine (same_c _ vcr (.slice va S.length vc) (S) (S) hvc (hs'.keeps hkk)).mono ?_
              rintro e w2 ⟨rfl, hkv⟩
              exact ⟨_, rfl, by simp [F25], Free.KeepsP.of hkv (by simp)⟩
            intro vb
            refine Free.walk_quiet (c := .bool false) rfl rfl ?_ ?_
            · intro w' hg hf
              have hvb : vb = .bool true := by simpa [F25] using hf 4 (by decide) (by kernel_rfl)
              clear hf hg
              go_simp
            refine Free.walk_nil ?_
            intro w3 hg hf
            have hk3 := keeps_of_none' hg
            clear hf hg
            have hst3 := hst'.keep hk3
            clear hst' hT' hs' cM' lM'
            replace hst3 := Lib.hid hst3
            go_frame
            go_wp2
            go_roundw
            case rel => exact ⟨k + 1, _, by omega, by go_num, by rw [hS'.out]; exact hst3.out⟩
            case measure => simp [Go.RowKit.intOf]; omega
          · replace ho := Lib.hid ho
            have hmc : markC aa = 0 := by simp [markC, ho.out]
            replace hmc := Lib.hid hmc
            go_wp2_with (first
              | (go_at_call 21; refine (clone_c _ bt bm S hTb.out).mono ?_; rintro e w2 ⟨bt2, bm2, rfl, hT2, hk2, hf1, hf2⟩; have hx2 := hk2.val hxc.out)
              | (go_at_call 17; refine (mark_c aa _ bt2 bm2 S hT2).mono ?_; rw [hmc.out]; rintro e W ⟨rfl, hT3, hk3⟩))
            have hst := fin3.out _ _ _ _ hk2 hk3 hf1 hf2
            clear hT2 hk2 hT3 hk3 hf1 hf2 hx2 x1 x2 x3 cM fM cR fR hTb hsb hnb hMb hRb hkb hbb hxc hgw hgw2 hneM hneR fin3
            obtain ⟨bt', bm', hpe, hT', hb1', hb2', hs', hn', hM', hR', hk'⟩ := hst
            have hpe2 : bt' = bt := ptr_inj hpe
            clear hpe
            subst hpe2
            have cM' := cell_of_one hM'
            have lM' := lt_of_block hM'
            have hst' : St w W M w.heap.size (.pointer (some ⟨bt', 0, none⟩)) (.slice va S.length vc) (S) (S) := ⟨bt', bm', rfl, hT', hb1', hb2', hs', hn', hM', hR', hk'⟩
            clear hn' hM' hR' hk' hb1' hb2'
            refine Free.wp_region_free (by kernel_rfl) (by kernel_rfl) (fun i => i == 1 || i == 4) (F25 (S)) (fun _ _ => False) (fun _ _ => false) (st25 (S)) ?_
            apply Free.walk_quiet rfl rfl
            · intro w' hg hf; clear hf
              go_simp <;> exact rfl
            apply Free.walk_loud rfl rfl
            · intro w' hg hf
              have hkk := keeps_of_none hg
              clear hf hg
              go_simp
              refine (cards_c _ bt' bm' (S) (hT'.keep hkk (by simp) (by simp))).mono ?_
              rintro e w2 ⟨vv, rfl, hv, hkv⟩
              exact ⟨vv, rfl, hv, Free.KeepsP.of hkv (by simp)⟩
            intro vcr
            apply Free.walk_quiet rfl rfl
            · intro w' hg hf; clear hf
              go_simp <;> exact rfl
            apply Free.walk_quiet rfl rfl
            · intro w' hg hf; clear hf
              have hT2 := ((keeps_of_none hg).cell0 M 0 lM').trans cM'
              go_simp <;> exact rfl
            apply Free.walk_loud rfl rfl
            · intro w' hg hf
              have hvc : SlI w' vcr (S) := by simpa [F25] using hf 1 (by decide) (by kernel_rfl)
              have hkk := keeps_of_none hg
              clear hf hg
              go_simp
              refine (same_c _ vcr (.slice va S.length vc) (S) (S) hvc (hs'.keeps hkk)).mono ?_
              rintro e w2 ⟨rfl, hkv⟩
              exact ⟨_, rfl, by simp [F25], Free.KeepsP.of hkv (by simp)⟩
            intro vb
            refine Free.walk_quiet (c := .bool false) rfl rfl ?_ ?_
            · intro w' hg hf
              have hvb : vb = .bool true := by simpa [F25] using hf 4 (by decide) (by kernel_rfl)
              clear hf hg
              go_simp
            refine Free.walk_nil ?_
            intro w3 hg hf
            have hk3 := keeps_of_none' hg
            clear hf hg
            have hst3 := hst'.keep hk3
            clear hst' hT' hs' cM' lM'
            replace hst3 := Lib.hid hst3
            go_frame
            go_wp2
            go_roundw
            case rel => exact ⟨k + 1, _, by omega, by go_num, by rw [hS'.out]; exact hst3.out⟩
            case measure => simp [Go.RowKit.intOf]; omega
        · have x1 : (kd % 8 == 1) = false := by simp [e1]
          have x2 : (kd % 8 == 2) = false := by simp [e2]
          have x3 : (kd % 8 == 3) = false := by simp [e3]
          have hS' : Hid (doS (l.take (k + 1)) = markS aa S) := by
            show doS _ = _
            rw [hlast.out]; simp [doStep, hkk.out, haa.out, e1, e2, e3]
          clear e1 e2 e3
          have hln := hTb.out.len
          have hcM := Lib.hid (cell_of_one hMb.out)
          have hmb := Lib.hid hTb.out.lt.2
          go_wp2_with (first
            | (go_at_call 23; refine (markr_c _ (.slice va S.length vc) S aa hsb.out hnb.out hln hTb.out.asc).mono ?_; rintro e w2 ⟨v2, rfl, hs2, hn2, hk2⟩; have hx2 := hk2.val hxc.out; have cM2 := hk2.val hcM.out; have lx2 := lt_of_cell hx2; have lM2 := lt_of_cell cM2; have fM2 := (hk2.frozen0 M 0 (lt_of_block hMb.out)).trans (free_of_one hMb.out); obtain ⟨va2, vc2, rfl⟩ := hs2.form)
            | (go_at_call 17; refine (mark_c aa _ bt bm S ((hTb.out.keep hk2 (by simp) (by simp)).keep ((Keeps.refl [] _).alloc _) (by simp) (by simp))).mono ?_; rintro e w3 ⟨rfl, hT3, hk3⟩; have cM3 := (hk3.cell M 0 (by simp; omega) (by simpa using hneM)).trans ((((Keeps.refl [] w2).alloc _).cell0 M 0 lM2).trans cM2); have fM3 := (hk3.frozen M 0 (by simp; omega) (by simpa using hneM)).trans ((((Keeps.refl [] w2).alloc _).frozen0 M 0 lM2).trans fM2); have hc11 := (hk3.cell w2.heap.size 0 (by simp) (by have := hmb.out; have := hk2.size; simp at this; simp; omega)).trans (cell_of_one (heap_alloc_new w2 _))))
          have hkk2 : Keeps [] w2 (w2.alloc (.cells #[.slice va2 (markS aa S).length vc2] 27)) := (Keeps.refl [] _).alloc _
          have hMw2 := (hk2.block M (lt_of_block hMb.out) (by simp)).trans hMb.out
          have hRw2 := (hk2.block _ (lt_of_block hRb.out) (by simp)).trans hRb.out
          have hMw3 := (hk3.block M (by have := lt_of_block hMw2; have := hkk2.size; omega) (by simpa using hneM)).trans ((hkk2.block M (lt_of_block hMw2) (by simp)).trans hMw2)
          have hRw3 := (hk3.block _ (by have := lt_of_block hRw2; have := hkk2.size; omega) (by simpa using hneR)).trans ((hkk2.block _ (lt_of_block hRw2) (by simp)).trans hRw2)
          have hst := St.set (w := w) (S2 := markS aa S) (v' := .slice va2 (markS aa S).length vc2) hT3 hbb.out ((hs2.keeps hkk2).keeps_map hk3 (owns_no_cells ((hTb.out.keep hk2 (by simp) (by simp)).keep hkk2 (by simp) (by simp)).own)) hn2 hMw3 hRw3 (((hkb.out.trans hk2).trans hkk2).fresh hk3 (fun x hx => by simp at hx; subst hx; exact .inr hbb.out.2)) hz0.out
          clear hT3 hk3 hk2 hkk2 hMw2 hRw2 hMw3 hRw3 hs2 hn2 hx2 cM2 lx2 lM2 fM2 cM3 fM3 hc11 x1 x2 x3 cM fM cR fR hTb hsb hnb hMb hRb hkb hbb hxc hgw hgw2 hneM hneR hln hcM hmb
          generalize w3.setCell ⟨M, 0, none⟩ (.slice va2 (markS aa S).length vc2) = W at hst ⊢
          obtain ⟨bt', bm', hpe, hT', hb1', hb2', hs', hn', hM', hR', hk'⟩ := hst
          have hpe2 : bt' = bt := ptr_inj hpe
          clear hpe
          subst hpe2
          have cM' := cell_of_one hM'
          have lM' := lt_of_block hM'
          have hst' : St w W M w.heap.size (.pointer (some ⟨bt', 0, none⟩)) (.slice va2 (markS aa S).length vc2) (markS aa S) (markS aa S) := ⟨bt', bm', rfl, hT', hb1', hb2', hs', hn', hM', hR', hk'⟩
          clear hn' hM' hR' hk' hb1' hb2'
          refine Free.wp_region_free (by kernel_rfl) (by kernel_rfl) (fun i => i == 1 || i == 4) (F25 (markS aa S)) (fun _ _ => False) (fun _ _ => false) (st25 (markS aa S)) ?_
          apply Free.walk_quiet rfl rfl
          · intro w' hg hf; clear hf
            go_simp <;> exact rfl
          apply Free.walk_loud rfl rfl
          · intro w' hg hf
            have hkk := keeps_of_none hg
            clear hf hg
            go_simp
            refine (cards_c _ bt' bm' (markS aa S) (hT'.keep hkk (by simp) (by simp))).mono ?_
            rintro e w2 ⟨vv, rfl, hv, hkv⟩
            exact ⟨vv, rfl, hv, Free.KeepsP.of hkv (by simp)⟩
          intro vcr
          apply Free.walk_quiet rfl rfl
          · intro w' hg hf; clear hf
            go_simp <;> exact rfl
          apply Free.walk_quiet rfl rfl
          · intro w' hg hf; clear hf
            have hT2 := ((keeps_of_none hg).cell0 M 0 lM').trans cM'
            go_simp <;> exact rfl
          apply Free.walk_loud rfl rfl
          · intro w' hg hf
            have hvc : SlI w' vcr (markS aa S) := by simpa [F25] using hf 1 (by decide) (by kernel_rfl)
            have hkk := keeps_of_none hg
            clear hf hg
            go_simp
            refine (same_c _ vcr (.slice va2 (markS aa S).length vc2) (markS aa S) (markS aa S) hvc (hs'.keeps hkk)).mono ?_
            rintro e w2 ⟨rfl, hkv⟩
            exact ⟨_, rfl, by simp [F25], Free.KeepsP.of hkv (by simp)⟩
          intro vb
          refine Free.walk_quiet (c := .bool false) rfl rfl ?_ ?_
          · intro w' hg hf
            have hvb : vb = .bool true := by simpa [F25] using hf 4 (by decide) (by kernel_rfl)
            clear hf hg
            go_simp
          refine Free.walk_nil ?_
          intro w3 hg hf
          have hk3 := keeps_of_none' hg
          clear hf hg
          have hst3 := hst'.keep hk3
          clear hst' hT' hs' cM' lM'
          replace hst3 := Lib.hid hst3
          go_frame
          go_wp2
          go_roundw
          case rel => exact ⟨k + 1, _, by omega, by go_num, by rw [hS'.out]; exact hst3.out⟩
          case measure => simp [Go.RowKit.intOf]; omega
      · have hke : k = l.length := by omega
        have hSl : Hid (S = doS l) := by
          show S = doS l
          rw [hSS.out, hke, List.take_length]
        have hneq : ¬ w.heap.size = M := by have := hz0.out; omega
        have hfin : Hid (Tab (wr.setCell ⟨w.heap.size, 0, none⟩ (.slice va S.length vc)) bt bm S ∧ SlI (wr.setCell ⟨w.heap.size, 0, none⟩ (.slice va S.length vc)) (.slice va S.length vc) S ∧ Keeps [] w (wr.setCell ⟨w.heap.size, 0, none⟩ (.slice va S.length vc))) :=
          ⟨hT.setM hR, hs.setM hR, hkw.setCell (.inl (Nat.le_refl _)) _⟩
        have hbb := Lib.hid (And.intro hb1 hb2)
        clear hst1 hneM hneR lbm hM hR hT hs hn hkw hb1 hb2
        go_wp2
        go_region
        all_goals go_wp2
        all_goals exact bodyPost_ret (v := .tuple #[.pointer (some ⟨bt, 0, none⟩), .agg #[.slice va S.length vc], .bool true]) (by simp [results, f11_results, go_sem, cR]) rfl (fin_do hbb.out hfin.out hSl.out)

end Go.Proofs.Ytekeabjclamfhaa
