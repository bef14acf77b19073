/- The reference's Mark. -/
import Derived.Test.YtekeabjclamfhaaRefs
namespace Go.Proofs.Ytekeabjclamfhaa
open Go.RowKit Go.Maps

theorem infoI : (Try.prog.info? 3).map (fun i => (i.zero, i.size, i.bytes)) = some (some (.int .i64 0), 1, 8) := by kernel_rfl

/-- What the loud operations of the last statement leave. -/
def FM (B rb : Nat) (l : List Int) (k : Nat) (q : Int) : Nat → Value → World → Prop
  | 3, v, W => ∃ g, v = .slice (some ⟨g, 0, none⟩) 1 1 ∧ B ≤ g ∧ W.cell? ⟨g, 0, none⟩ = some (.int .i64 q)
  | 4, v, W => W.ownsRow B 3 1 v (k + 1) (ints (l.take k) ++ [.int .i64 q])
  | 9, v, W => W.ownsRow B 3 1 v (k + 1 + (l.length - k)) (ints (l.take k) ++ [.int .i64 q] ++ ints (l.drop k))
  | 11, _, W => ∃ v, W.cell? ⟨rb, 0, none⟩ = some v ∧ W.ownsRow B 3 1 v (k + 1 + (l.length - k)) (ints (l.take k) ++ [.int .i64 q] ++ ints (l.drop k))
  | _, _, _ => True
def TM (B rb : Nat) : Nat → Nat → Prop
  | 4, b => B ≤ b
  | 9, b => B ≤ b
  | 11, b => b = rb
  | _, _ => False
def LM (i : Nat) : Bool := i == 3 || i == 4 || i == 9 || i == 11
def KM (k i : Nat) : Bool := (k == 4 && i == 3) || (k == 9 && (i == 3 || i == 4))

theorem TM_low {B rb k b : Nat} (h : TM B rb k b) : b = rb ∨ B ≤ b := by
  unfold TM at h
  split at h <;> first | exact .inl h | exact .inr h | exact h.elim
theorem hstM {ops : Array Oper} {B rb k0 : Nat} {l : List Int} {q : Int} (p1 : Free.pre ops 4 9 = true) (p2 : Free.pre ops 4 11 = true) (p3 : Free.pre ops 9 11 = true) (hrb : rb < B) :
    ∀ i k v w w', LM i = true → i ≠ k → KM k i = false → Free.pre ops k i = false → FM B rb l k0 q i v w → Free.KeepsP (TM B rb k) w w' → FM B rb l k0 q i v w' := by
  intro i k v w w' hl hne hk hp hF hK
  have hi : i = 3 ∨ i = 4 ∨ i = 9 ∨ i = 11 := by simpa [LM, or_assoc] using hl
  have hT : (i = 11 ∨ k ≠ 4) → k ≠ 4 → k ≠ 9 → ∀ b, b ≠ rb → b < w.heap.size → w'.heap[b]? = w.heap[b]? := fun _ h4 h9 b hb hlt => hK.block b hlt (fun h => by
    unfold TM at h
    split at h
    · exact h4 rfl
    · exact h9 rfl
    · exact hb h
    · exact h)
  rcases hi with rfl | rfl | rfl | rfl
  · have h4 : k ≠ 4 := fun e => by subst e; simp [KM] at hk
    have h9 : k ≠ 9 := fun e => by subst e; simp [KM] at hk
    obtain ⟨g, e, hg, hc⟩ := hF
    exact ⟨g, e, hg, (World.cell?_of_block (w := w) (a := ⟨g, 0, none⟩) (hT (.inr h4) h4 h9 g (by omega) (lt_of_cell hc))).trans hc⟩
  · have h4 : k ≠ 4 := fun e => hne e.symm
    have h9 : k ≠ 9 := fun e => by subst e; simp [KM] at hk
    exact ownsRow_block hF (fun b hb hlt => hT (.inr h4) h4 h9 b (by omega) hlt)
  · have h4 : k ≠ 4 := fun e => by subst e; rw [p1] at hp; cases hp
    have h9 : k ≠ 9 := fun e => hne e.symm
    exact ownsRow_block hF (fun b hb hlt => hT (.inr h4) h4 h9 b (by omega) hlt)
  · have h4 : k ≠ 4 := fun e => by subst e; rw [p2] at hp; cases hp
    have h9 : k ≠ 9 := fun e => by subst e; rw [p3] at hp; cases hp
    have h11 : k ≠ 11 := fun e => hne e.symm
    have hall : ∀ b, b < w.heap.size → w'.heap[b]? = w.heap[b]? := fun b hlt => hK.block b hlt (fun h => by
      unfold TM at h
      split at h
      · exact h4 rfl
      · exact h9 rfl
      · exact h11 rfl
      · exact h)
    obtain ⟨v9, hc, ho⟩ := hF
    exact ⟨v9, (World.cell?_of_block (w := w) (a := ⟨rb, 0, none⟩) (hall rb (lt_of_cell hc))).trans hc, ownsRow_block ho (fun b _ hlt => hall b hlt)⟩
theorem quo16 {a : Int} (h0 : 0 ≤ a) (h1 : a < 16777216) : IntKind.i64.wrap (a.tdiv 16) = a / 16 := by
  rw [Int.tdiv_eq_ediv_of_nonneg h0]
  exact IntWalk.i64_in _ (by omega)
theorem TM_4 {ops : Array Oper} {B hs kk b : Nat} (hne : kk ≠ 4) (hpre : Free.pre ops 4 kk = false) (h9 : Free.pre ops 4 9 = true) (hb : B ≤ b) (hz : hs + 1 + 1 ≤ B) (h : TM B (hs + 1) kk b) : False := by
  unfold TM at h
  split at h
  · exact hne rfl
  · rw [h9] at hpre; cases hpre
  · omega
  · exact h
theorem owns_one {w : World} {base e sz n : Nat} {v : Value} {cs : List Value} (h : w.ownsRow base e sz v n cs) : Free.plainCell v = true := by
  rcases h.2 with ⟨rfl, _⟩ | ⟨g, cap, cur, rfl, _⟩ <;> rfl
theorem TM_11 {B hs kk : Nat} (hne : kk ≠ 11) (hz : hs + 1 + 1 ≤ B) (h : TM B (hs + 1) kk (hs + 1)) : False := by
  unfold TM at h
  split at h
  · omega
  · omega
  · exact hne rfl
  · exact h
/-- In whatever world of the last statement what came in is as it was. -/
theorem tailW {w w1 w2 : World} (hw1 : Keeps [] w w1) (hk12 : Keeps [] w1 w2) (hz : w.heap.size + 1 + 1 ≤ w1.heap.size) :
    ∀ (S : Nat → Prop) W, (∀ b, S b → b = w.heap.size + 1 ∨ w1.heap.size ≤ b) → Free.KeepsP S w2.drew W → Keeps [] w W := fun S W hS h =>
  h.to ((hw1.trans hk12).drew) (fun b hb => .inr (by rcases hS b hb with h | h <;> omega))
theorem sx_low {ops : Array Oper} {B rb i b : Nat} (h : Free.sx ops (TM B rb) i b) : b = rb ∨ B ≤ b := by
  obtain ⟨k, _, _, hk⟩ := h
  exact TM_low hk

theorem tail_val {w : World} {B : Nat} {l : List Int} {k : Nat} {q : Int} {v : Value} (hk : k ≤ l.length) (hs : ∀ h : k < l.length, ¬ l[k] < q) (hn : ∀ j (h : j < l.length), j < k → l[j] < q) (hasc : Asc l) (hm : ¬ q ∈ l)
    (h : w.ownsRow B 3 1 v (k + 1 + (l.length - k)) (ints (l.take k) ++ [.int .i64 q] ++ ints (l.drop k))) : SlI w v (ins q l) := by
  have e := ins_split hasc hm k hk hn hs
  have hl : (ins q l).length = k + 1 + (l.length - k) := by rw [← e]; simp; omega
  have := Sl.of_owns h
  unfold SlI
  rw [hl, ← e]
  simpa [List.map_append] using this
theorem f23_results : Try.f23.results = #[.cell 4 27, .tmp 5] := by kernel_rfl

set_option maxHeartbeats 4000000 in
theorem markr_new (w : World) (v : Value) (l : List Int) (a : Int) (h : SlI w v l) (hnil : l = [] → v = .slice none 0 0) (hlen : l.length ≤ 1048576) (h0 : 0 ≤ a) (h1 : a < 16777216) (hm : ¬ a / 16 ∈ l) (hasc : Asc l) :
    Calls Try.prog 23 #[.agg #[v], .int .i64 a] w fun e w' => ∃ v', e = .returned (.tuple #[.agg #[v'], .int .i64 0]) ∧ SlI w' v' (ins (a / 16) l) ∧ Keeps [] w w' := by
  have ho : oldB a = true := oldB_iff.2 ⟨h0, h1⟩
  replace ho := Lib.hid ho
  have hnm : decide (a / 16 ∈ l) = false := by simp [hm]
  replace hnm := Lib.hid hnm
  have hh := Lib.hid h
  have hin : Hid (¬ a / 16 ∈ l) := hm
  clear hm
  by_cases hemp : l = []
  · subst hemp
    obtain rfl := hnil rfl
    clear h
    go_enter Try.func23, Try.ntmps23
    go_wp2_with (first
      | (go_at_call 22; refine (oldr_c _ _).mono ?_; rw [ho.out]; rintro e w' ⟨rfl, rfl⟩)
      | (go_at_call 13; refine (has_c _ _ [] _ (hh.out.keeps (((Keeps.refl _ w).alloc _).alloc _)) hlen).mono ?_; rw [ho.out, hnm.out]; rintro e w1 ⟨rfl, hk1⟩; have hc := hk1.cell0; have hf := hk1.frozen0; have hz := hk1.size; simp at hz; have hz0 : w.heap.size < w1.heap.size := (by omega); have hw1 := (((Keeps.refl [] w).alloc _).alloc _).trans hk1))
    obtain ⟨i0, hi, hz0', hz1, hz2⟩ := info_parts infoI
    go_loop [6] (fun i => i = .int .i64 0) (fun _ => 0)
    case atStart => rfl
    case round =>
      subst hrel
      go_wp2_with (at_builtin; refine wpl_append rfl _ _ 25 rfl w1.heap.size 3 i0 (.int .i64 0) 1 8 Try.underlying25 hi hz0' hz1 hz2 rfl (by decide) _ 0 [] rfl (ownsRow_empty w1 _ _ _ (Nat.le_refl _)) _ 0 (ints []) rfl (Sl.nil _ _) (ints_one _) (by simp [maxLen]) (by simp) (by simp) ?_; intro v2 w2 hown2 hgrow2)
      have hk12 : Keeps [] w1 w2 := ((Keeps.refl [] w1).alloc _).grown hgrow2 (fun k e => by cases e; exact .inl (Nat.le_refl _))
      have hW := tailW hw1 hk12 hz
      have cT : w2.cell? ⟨w.heap.size, 0, none⟩ = some (.slice none 0 0) := (hk12.cell0 _ _ hz0).trans ((hc _ _ (by simp; omega)).trans (by simp))
      have cR : w2.cell? ⟨w.heap.size + 1, 0, none⟩ = some (.slice none 0 0) := (hk12.cell0 _ _ (by omega)).trans ((hc _ _ (by simp)).trans (by simp))
      have fR : w2.frozen? ⟨w.heap.size + 1, 0, none⟩ = false := (hk12.frozen0 _ _ (by omega)).trans ((hf _ _ (by simp)).trans (by simp))
      have lT : w.heap.size + 1 < w2.heap.size := by have := hk12.size; omega
      have hq : IntKind.i64.wrap (a.tdiv 16) = a / 16 := quo16 h0 h1
      refine Free.wp_region_free (by kernel_rfl) (by kernel_rfl) LM (FM w1.heap.size (w.heap.size + 1) [] 0 (a / 16)) (TM w1.heap.size (w.heap.size + 1)) KM ?_ ?_
      · exact hstM (by kernel_rfl) (by kernel_rfl) (by kernel_rfl) (by omega)
      · -- 0, 1, 2
        apply Free.walk_quiet rfl rfl
        · intro w' hg hf; clear hf
          go_simp <;> exact rfl
        apply Free.walk_quiet rfl rfl
        · intro w' hg hf; clear hf
          go_simp <;> exact rfl
        apply Free.walk_quiet rfl rfl
        · intro w' hg hf; clear hf
          go_simp <;> exact rfl
        apply Free.walk_loud rfl rfl
        · intro w' hg hf; clear hf
          have hwB : w1.heap.size ≤ w'.heap.size := by have := hg.size; simp at this; have := hk12.size; omega
          go_simp
          exact ⟨⟨w'.heap.size, rfl, hwB, by simp⟩, Free.KeepsP.alloc _ _ _⟩
        intro v3
        -- 4: the first append
        apply Free.walk_loud rfl rfl
        · intro w' hg hf
          have hwB : w1.heap.size ≤ w'.heap.size := by have := hg.size; simp at this; have := hk12.size; omega
          obtain ⟨g3, rfl, hg3, hc3⟩ : FM w1.heap.size (w.heap.size + 1) [] 0 (a / 16) 3 v3 w' := by simpa using hf 3 (by decide) (by kernel_rfl)
          have hown' : w'.ownsRow w1.heap.size 3 1 v2 0 (ints (([] : List Int).take 0)) := by
            have := ownsRow_block (w' := w') hown2 (fun b hb hlt => hg.block b (by simpa using hlt) (fun h => by
              obtain ⟨kk, hne, hpre, hT⟩ := h
              exact TM_4 hne hpre (by kernel_rfl) hb hz hT))
            simpa using this
          clear hf
          refine Free.loud_append (.tmp 39) (.tmp 42) 25 rfl w1.heap.size 3 i0 (.int .i64 0) 1 8 Try.underlying25 hi hz0' hz1 hz2 rfl (by decide) v2 0 (ints (([] : List Int).take 0)) (by simp [Act.eval, Act.put]) hown' _ 1 [.int .i64 (a / 16)] (by simp [Act.eval, Act.put]) ⟨rfl, _, _, rfl, Nat.le_refl _, by simp [maxLen], by simp, fun _ => ⟨g3, 0, rfl, fun j u hj => by
            match j, hj with
            | 0, hj => simp at hj; subst hj; exact hc3⟩⟩ (by simp [Value.oneCell']) (by simp [maxLen]) (by simp) hwB ?_
          intro v' w'' ho hgr
          exact ⟨ho, Free.KeepsP.grown hgr (fun b hb => (hown'.lt b hb).1)⟩
        intro v4
        -- 5 to 8
        apply Free.walk_quiet rfl rfl
        · intro w' hg hf; clear hf
          go_simp <;> exact rfl
        apply Free.walk_quiet rfl rfl
        · intro w' hg hf; clear hf
          have hT := (hg.cell _ 0 (show w.heap.size < w2.drew.heap.size by simp; omega) (fun h => by rcases sx_low h with h | h <;> omega)).trans cT
          go_simp <;> exact rfl
        apply Free.walk_quiet rfl rfl
        · intro w' hg hf; clear hf
          go_simp <;> exact rfl
        apply Free.walk_quiet rfl rfl
        · intro w' hg hf; clear hf
          go_simp <;> exact rfl
        -- 9: the second append
        apply Free.walk_loud rfl rfl
        · intro w' hg hf
          have hwB : w1.heap.size ≤ w'.heap.size := by have := hg.size; simp at this; have := hk12.size; omega
          have hown' : w'.ownsRow w1.heap.size 3 1 v4 (0 + 1) (ints (([] : List Int).take 0) ++ [.int .i64 (a / 16)]) := (show FM w1.heap.size (w.heap.size + 1) [] 0 (a / 16) 4 v4 w' from by simpa using hf 4 (by decide) (by kernel_rfl))
          clear hf
          refine Free.loud_append (.tmp 43) (.tmp 47) 25 rfl w1.heap.size 3 i0 (.int .i64 0) 1 8 Try.underlying25 hi hz0' hz1 hz2 rfl (by decide) v4 (0 + 1) _ (by simp [Act.eval, Act.put]) hown' (.slice none 0 0) (([] : List Int).length - 0) (ints (([] : List Int).drop 0)) (by simp [Act.eval, Act.put]) (Sl.nil _ _) (ints_one _) (by simp [maxLen]) (by simp) hwB ?_
          intro v' w'' ho hgr
          exact ⟨ho, Free.KeepsP.grown hgr (fun b hb => (hown'.lt b hb).1)⟩
        intro v9
        refine Free.walk_quiet (c := .agg #[v9]) rfl rfl ?_ ?_
        · intro w' hg hf
          have h9 : w'.ownsRow w1.heap.size 3 1 v9 (0 + 1 + (([] : List Int).length - 0)) (ints (([] : List Int).take 0) ++ [.int .i64 (a / 16)] ++ ints (([] : List Int).drop 0)) := (show FM w1.heap.size (w.heap.size + 1) [] 0 (a / 16) 9 v9 w' from by simpa using hf 9 (by decide) (by kernel_rfl))
          clear hf
          obtain ⟨g9, c9, rfl, _⟩ := ownsRow_pos h9 (by simp)
          go_simp
          all_goals exact rfl
        apply Free.walk_loud rfl rfl
        · intro w' hg hf
          have h9 : w'.ownsRow w1.heap.size 3 1 v9 (0 + 1 + (([] : List Int).length - 0)) (ints (([] : List Int).take 0) ++ [.int .i64 (a / 16)] ++ ints (([] : List Int).drop 0)) := (show FM w1.heap.size (w.heap.size + 1) [] 0 (a / 16) 9 v9 w' from by simpa using hf 9 (by decide) (by kernel_rfl))
          clear hf
          have h91 : Free.plainCell v9 = true := owns_one h9
          have hR := (hg.cell (w.heap.size + 1) 0 (by simpa using lT) (fun h => by obtain ⟨kk, hne, _, hT⟩ := h; exact TM_11 hne hz hT)).trans cR
          have fR' := (hg.frozen (w.heap.size + 1) 0 (by simpa using lT) (fun h => by obtain ⟨kk, hne, _, hT⟩ := h; exact TM_11 hne hz hT)).trans fR
          refine Free.loud_store1 27 (.tmp 4) (.tmp 49) rfl (fun w => by kernel_rfl) (w.heap.size + 1) 0 v9 _ (by simp [Act.eval, Act.put]) (by simp [Act.eval, Act.put]) h91 hR fR' ?_
          exact ⟨⟨v9, World.cell?_setCell_same' _ _ _ (by simp [hR]), ownsRow_block h9 (fun b hb hlt => Below.heap_setCell _ _ _ _ (by simp; omega))⟩, Free.KeepsP.setCell (S := TM w1.heap.size (w.heap.size + 1) 11) w' (p := ⟨w.heap.size + 1, 0, none⟩) (show TM w1.heap.size (w.heap.size + 1) 11 (w.heap.size + 1) from rfl) _⟩
        intro _
        apply Free.walk_quiet rfl rfl
        · intro w' hg hf; clear hf
          go_simp <;> exact rfl
        refine Free.walk_nil ?_
        intro w3 hg hf
        obtain ⟨v, cv, hv⟩ : FM w1.heap.size (w.heap.size + 1) [] 0 (a / 16) 11 undef w3 := by simpa [FM] using hf 11 (by decide) (by kernel_rfl)
        have hw3 := hW _ _ (fun b h => by obtain ⟨kk, hT⟩ := h; exact TM_low hT) hg
        clear hf hg hown2 hgrow2
        go_wp2
        all_goals exact bodyPost_ret (v := .tuple #[.agg #[v], .int .i64 0]) (by simp [results, f23_results, go_sem, cv]) rfl ⟨v, rfl, tail_val (l := []) (k := 0) (by simp) (fun h => by simp at h) (fun j h => by simp at h) (by simp [Asc]) (by simp) hv, hw3⟩
  rcases h.cases with ⟨rfl, _⟩ | ⟨g1, o1, c1, rfl, hn1, hm1, hp1, hg1, hc1⟩
  · exact absurd rfl hemp
  · clear h
    go_enter Try.func23, Try.ntmps23
    go_wp2_with (first
      | (go_at_call 22; refine (oldr_c _ _).mono ?_; rw [ho.out]; rintro e w' ⟨rfl, rfl⟩)
      | (go_at_call 13; refine (has_c _ _ l _ (hh.out.keeps (((Keeps.refl _ w).alloc _).alloc _)) hlen).mono ?_; rw [ho.out, hnm.out]; rintro e w1 ⟨rfl, hk1⟩; have hc := hk1.cell0; have hf := hk1.frozen0; have hz := hk1.size; simp at hz; have hz0 : w.heap.size < w1.heap.size := (by omega); have hw1 := (((Keeps.refl [] w).alloc _).alloc _).trans hk1; have hc2 : ∀ k (hk : k < l.length), w1.cell? ⟨g1, o1 + k, none⟩ = some (.int .i64 l[k]) := fun k hk => hw1.val (hc1 k hk)))
    obtain ⟨i0, hi, hz0', hz1, hz2⟩ := info_parts infoI
    go_loop [6] (fun i => ∃ k : Nat, k ≤ l.length ∧ i = .int .i64 k ∧ Hid (∀ j (h : j < l.length), j < k → l[j] < a / 16)) (fun i => l.length - (Go.RowKit.intOf i).toNat)
    case atStart => exact ⟨0, by omega, rfl, fun j _ hj => by omega⟩
    case round =>
      obtain ⟨k, hk, rfl, hno⟩ := hrel
      by_cases hgo : ∃ h : k < l.length, l[k] < a / 16
      · obtain ⟨hlt, he⟩ := hgo
        have k1 := hc2 k hlt
        have hx : decide (l[k] < a / 16) = true := by simp [he]
        replace he := Lib.hid he
        go_wp2
        go_round
        case rel => exact ⟨k + 1, by omega, by go_num, fun j hj hjk => by
            by_cases e : j = k
            · subst e; exact he.out
            · exact hno.out j hj (by omega)⟩
        case measure => simp [Go.RowKit.intOf]; omega
      · have hstop : Hid (∀ h : k < l.length, ¬ l[k] < a / 16) := fun h h' => hgo ⟨h, h'⟩
        have hsl : ∀ W, Keeps [] w1 W → Sl W 1 (.slice (some ⟨g1, o1, none⟩) k c1) k (ints (l.take k)) := fun W hW => by
          have := ((hh.out.keeps hw1).keeps hW).part 0 k (by omega) hk
          simpa [List.map_take] using this
        replace hsl := Lib.hid hsl
        have hcut : (k : Int) ≤ c1 := by omega
        by_cases hlt : k < l.length
        · have k1 := hc2 k hlt
          have hx : decide (l[k] < a / 16) = false := by simpa using hstop.out hlt
          clear hgo
          go_wp2_with (at_builtin; refine wpl_append rfl _ _ 25 rfl w1.heap.size 3 i0 (.int .i64 0) 1 8 Try.underlying25 hi hz0' hz1 hz2 rfl (by decide) _ 0 [] rfl (ownsRow_empty w1 _ _ _ (Nat.le_refl _)) _ k (ints (l.take k)) rfl (hsl.out _ ((Keeps.refl _ _).alloc _)) (ints_one _) (by simp only [maxLen]; omega) (by omega) (by simp) ?_; intro v2 w2 hown2 hgrow2)
          have hk12 : Keeps [] w1 w2 := ((Keeps.refl [] w1).alloc _).grown hgrow2 (fun k e => by cases e; exact .inl (Nat.le_refl _))
          have hW := tailW hw1 hk12 hz
          have cT : w2.cell? ⟨w.heap.size, 0, none⟩ = some (.slice (some ⟨g1, o1, none⟩) l.length c1) := (hk12.cell0 _ _ hz0).trans ((hc _ _ (by simp; omega)).trans (by simp))
          have cR : w2.cell? ⟨w.heap.size + 1, 0, none⟩ = some (.slice none 0 0) := (hk12.cell0 _ _ (by omega)).trans ((hc _ _ (by simp)).trans (by simp))
          have fR : w2.frozen? ⟨w.heap.size + 1, 0, none⟩ = false := (hk12.frozen0 _ _ (by omega)).trans ((hf _ _ (by simp)).trans (by simp))
          have lT : w.heap.size + 1 < w2.heap.size := by have := hk12.size; omega
          have hq : IntKind.i64.wrap (a.tdiv 16) = a / 16 := quo16 h0 h1
          refine Free.wp_region_free (by kernel_rfl) (by kernel_rfl) LM (FM w1.heap.size (w.heap.size + 1) l k (a / 16)) (TM w1.heap.size (w.heap.size + 1)) KM ?_ ?_
          · exact hstM (by kernel_rfl) (by kernel_rfl) (by kernel_rfl) (by omega)
          · -- 0, 1, 2
            apply Free.walk_quiet rfl rfl
            · intro w' hg hf; clear hf
              go_simp <;> exact rfl
            apply Free.walk_quiet rfl rfl
            · intro w' hg hf; clear hf
              go_simp <;> exact rfl
            apply Free.walk_quiet rfl rfl
            · intro w' hg hf; clear hf
              go_simp <;> exact rfl
            apply Free.walk_loud rfl rfl
            · intro w' hg hf; clear hf
              have hwB : w1.heap.size ≤ w'.heap.size := by have := hg.size; simp at this; have := hk12.size; omega
              go_simp
              exact ⟨⟨w'.heap.size, rfl, hwB, by simp⟩, Free.KeepsP.alloc _ _ _⟩
            intro v3
            -- 4: the first append
            apply Free.walk_loud rfl rfl
            · intro w' hg hf
              have hwB : w1.heap.size ≤ w'.heap.size := by have := hg.size; simp at this; have := hk12.size; omega
              obtain ⟨g3, rfl, hg3, hc3⟩ : FM w1.heap.size (w.heap.size + 1) l k (a / 16) 3 v3 w' := by simpa using hf 3 (by decide) (by kernel_rfl)
              have hown' : w'.ownsRow w1.heap.size 3 1 v2 k (ints (l.take k)) := by
                have := ownsRow_block (w' := w') hown2 (fun b hb hlt => hg.block b (by simpa using hlt) (fun h => by
                  obtain ⟨kk, hne, hpre, hT⟩ := h
                  exact TM_4 hne hpre (by kernel_rfl) hb hz hT))
                simpa using this
              clear hf
              refine Free.loud_append (.tmp 39) (.tmp 42) 25 rfl w1.heap.size 3 i0 (.int .i64 0) 1 8 Try.underlying25 hi hz0' hz1 hz2 rfl (by decide) v2 k (ints (l.take k)) (by simp [Act.eval, Act.put]) hown' _ 1 [.int .i64 (a / 16)] (by simp [Act.eval, Act.put]) ⟨rfl, _, _, rfl, Nat.le_refl _, by simp [maxLen], by simp, fun _ => ⟨g3, 0, rfl, fun j u hj => by
                match j, hj with
                | 0, hj => simp at hj; subst hj; exact hc3⟩⟩ (by simp [Value.oneCell']) (by simp only [maxLen]; omega) (by omega) hwB ?_
              intro v' w'' ho hgr
              exact ⟨ho, Free.KeepsP.grown hgr (fun b hb => (hown'.lt b hb).1)⟩
            intro v4
            -- 5 to 8
            apply Free.walk_quiet rfl rfl
            · intro w' hg hf; clear hf
              go_simp <;> exact rfl
            apply Free.walk_quiet rfl rfl
            · intro w' hg hf; clear hf
              have hT := (hg.cell _ 0 (show w.heap.size < w2.drew.heap.size by simp; omega) (fun h => by rcases sx_low h with h | h <;> omega)).trans cT
              go_simp <;> exact rfl
            apply Free.walk_quiet rfl rfl
            · intro w' hg hf; clear hf
              go_simp <;> exact rfl
            apply Free.walk_quiet rfl rfl
            · intro w' hg hf; clear hf
              go_simp <;> exact rfl
            -- 9: the second append
            apply Free.walk_loud rfl rfl
            · intro w' hg hf
              have hwB : w1.heap.size ≤ w'.heap.size := by have := hg.size; simp at this; have := hk12.size; omega
              have hown' : w'.ownsRow w1.heap.size 3 1 v4 (k + 1) (ints (l.take k) ++ [.int .i64 (a / 16)]) := (show FM w1.heap.size (w.heap.size + 1) l k (a / 16) 4 v4 w' from by simpa using hf 4 (by decide) (by kernel_rfl))
              have hs8 := ((hh.out.keeps (hW _ _ (fun b h => sx_low h) hg)).tail1 k hk)
              clear hf
              refine Free.loud_append (.tmp 43) (.tmp 47) 25 rfl w1.heap.size 3 i0 (.int .i64 0) 1 8 Try.underlying25 hi hz0' hz1 hz2 rfl (by decide) v4 (k + 1) _ (by simp [Act.eval, Act.put]) hown' (.slice (if c1 = k then some ⟨g1, o1, none⟩ else some ⟨g1, o1 + k, none⟩) (l.length - k) (c1 - k)) (l.length - k) (ints (l.drop k)) (by simp [Act.eval, Act.put]) (by simpa [List.map_drop] using hs8) (ints_one _) (by simp only [maxLen]; omega) (by omega) hwB ?_
              intro v' w'' ho hgr
              exact ⟨ho, Free.KeepsP.grown hgr (fun b hb => (hown'.lt b hb).1)⟩
            intro v9
            refine Free.walk_quiet (c := .agg #[v9]) rfl rfl ?_ ?_
            · intro w' hg hf
              have h9 : w'.ownsRow w1.heap.size 3 1 v9 (k + 1 + (l.length - k)) (ints (l.take k) ++ [.int .i64 (a / 16)] ++ ints (l.drop k)) := (show FM w1.heap.size (w.heap.size + 1) l k (a / 16) 9 v9 w' from by simpa using hf 9 (by decide) (by kernel_rfl))
              clear hf
              obtain ⟨g9, c9, rfl, _⟩ := ownsRow_pos h9 (by omega)
              go_simp
              all_goals exact rfl
            apply Free.walk_loud rfl rfl
            · intro w' hg hf
              have h9 : w'.ownsRow w1.heap.size 3 1 v9 (k + 1 + (l.length - k)) (ints (l.take k) ++ [.int .i64 (a / 16)] ++ ints (l.drop k)) := (show FM w1.heap.size (w.heap.size + 1) l k (a / 16) 9 v9 w' from by simpa using hf 9 (by decide) (by kernel_rfl))
              clear hf
              have h91 : Free.plainCell v9 = true := owns_one h9
              have hR := (hg.cell (w.heap.size + 1) 0 (by simpa using lT) (fun h => by obtain ⟨kk, hne, _, hT⟩ := h; exact TM_11 hne hz hT)).trans cR
              have fR' := (hg.frozen (w.heap.size + 1) 0 (by simpa using lT) (fun h => by obtain ⟨kk, hne, _, hT⟩ := h; exact TM_11 hne hz hT)).trans fR
              refine Free.loud_store1 27 (.tmp 4) (.tmp 49) rfl (fun w => by kernel_rfl) (w.heap.size + 1) 0 v9 _ (by simp [Act.eval, Act.put]) (by simp [Act.eval, Act.put]) h91 hR fR' ?_
              exact ⟨⟨v9, World.cell?_setCell_same' _ _ _ (by simp [hR]), ownsRow_block h9 (fun b hb hlt => Below.heap_setCell _ _ _ _ (by simp; omega))⟩, Free.KeepsP.setCell (S := TM w1.heap.size (w.heap.size + 1) 11) w' (p := ⟨w.heap.size + 1, 0, none⟩) (show TM w1.heap.size (w.heap.size + 1) 11 (w.heap.size + 1) from rfl) _⟩
            intro _
            apply Free.walk_quiet rfl rfl
            · intro w' hg hf; clear hf
              go_simp <;> exact rfl
            refine Free.walk_nil ?_
            intro w3 hg hf
            obtain ⟨v, cv, hv⟩ : FM w1.heap.size (w.heap.size + 1) l k (a / 16) 11 undef w3 := by simpa [FM] using hf 11 (by decide) (by kernel_rfl)
            have hw3 := hW _ _ (fun b h => by obtain ⟨kk, hT⟩ := h; exact TM_low hT) hg
            clear hf hg hown2 hgrow2
            go_wp2
            all_goals exact bodyPost_ret (v := .tuple #[.agg #[v], .int .i64 0]) (by simp [results, f23_results, go_sem, cv]) rfl ⟨v, rfl, tail_val hk (fun h => by have := hstop.out h; omega) (fun j h h' => hno.out j h h') hasc hin.out hv, hw3⟩
        · clear hgo
          go_wp2_with (at_builtin; refine wpl_append rfl _ _ 25 rfl w1.heap.size 3 i0 (.int .i64 0) 1 8 Try.underlying25 hi hz0' hz1 hz2 rfl (by decide) _ 0 [] rfl (ownsRow_empty w1 _ _ _ (Nat.le_refl _)) _ k (ints (l.take k)) rfl (hsl.out _ ((Keeps.refl _ _).alloc _)) (ints_one _) (by simp only [maxLen]; omega) (by omega) (by simp) ?_; intro v2 w2 hown2 hgrow2)
          have hk12 : Keeps [] w1 w2 := ((Keeps.refl [] w1).alloc _).grown hgrow2 (fun k e => by cases e; exact .inl (Nat.le_refl _))
          have hW := tailW hw1 hk12 hz
          have cT : w2.cell? ⟨w.heap.size, 0, none⟩ = some (.slice (some ⟨g1, o1, none⟩) l.length c1) := (hk12.cell0 _ _ hz0).trans ((hc _ _ (by simp; omega)).trans (by simp))
          have cR : w2.cell? ⟨w.heap.size + 1, 0, none⟩ = some (.slice none 0 0) := (hk12.cell0 _ _ (by omega)).trans ((hc _ _ (by simp)).trans (by simp))
          have fR : w2.frozen? ⟨w.heap.size + 1, 0, none⟩ = false := (hk12.frozen0 _ _ (by omega)).trans ((hf _ _ (by simp)).trans (by simp))
          have lT : w.heap.size + 1 < w2.heap.size := by have := hk12.size; omega
          have hq : IntKind.i64.wrap (a.tdiv 16) = a / 16 := quo16 h0 h1
          refine Free.wp_region_free (by kernel_rfl) (by kernel_rfl) LM (FM w1.heap.size (w.heap.size + 1) l k (a / 16)) (TM w1.heap.size (w.heap.size + 1)) KM ?_ ?_
          · exact hstM (by kernel_rfl) (by kernel_rfl) (by kernel_rfl) (by omega)
          · -- 0, 1, 2
            apply Free.walk_quiet rfl rfl
            · intro w' hg hf; clear hf
              go_simp <;> exact rfl
            apply Free.walk_quiet rfl rfl
            · intro w' hg hf; clear hf
              go_simp <;> exact rfl
            apply Free.walk_quiet rfl rfl
            · intro w' hg hf; clear hf
              go_simp <;> exact rfl
            apply Free.walk_loud rfl rfl
            · intro w' hg hf; clear hf
              have hwB : w1.heap.size ≤ w'.heap.size := by have := hg.size; simp at this; have := hk12.size; omega
              go_simp
              exact ⟨⟨w'.heap.size, rfl, hwB, by simp⟩, Free.KeepsP.alloc _ _ _⟩
            intro v3
            -- 4: the first append
            apply Free.walk_loud rfl rfl
            · intro w' hg hf
              have hwB : w1.heap.size ≤ w'.heap.size := by have := hg.size; simp at this; have := hk12.size; omega
              obtain ⟨g3, rfl, hg3, hc3⟩ : FM w1.heap.size (w.heap.size + 1) l k (a / 16) 3 v3 w' := by simpa using hf 3 (by decide) (by kernel_rfl)
              have hown' : w'.ownsRow w1.heap.size 3 1 v2 k (ints (l.take k)) := by
                have := ownsRow_block (w' := w') hown2 (fun b hb hlt => hg.block b (by simpa using hlt) (fun h => by
                  obtain ⟨kk, hne, hpre, hT⟩ := h
                  exact TM_4 hne hpre (by kernel_rfl) hb hz hT))
                simpa using this
              clear hf
              refine Free.loud_append (.tmp 39) (.tmp 42) 25 rfl w1.heap.size 3 i0 (.int .i64 0) 1 8 Try.underlying25 hi hz0' hz1 hz2 rfl (by decide) v2 k (ints (l.take k)) (by simp [Act.eval, Act.put]) hown' _ 1 [.int .i64 (a / 16)] (by simp [Act.eval, Act.put]) ⟨rfl, _, _, rfl, Nat.le_refl _, by simp [maxLen], by simp, fun _ => ⟨g3, 0, rfl, fun j u hj => by
                match j, hj with
                | 0, hj => simp at hj; subst hj; exact hc3⟩⟩ (by simp [Value.oneCell']) (by simp only [maxLen]; omega) (by omega) hwB ?_
              intro v' w'' ho hgr
              exact ⟨ho, Free.KeepsP.grown hgr (fun b hb => (hown'.lt b hb).1)⟩
            intro v4
            -- 5 to 8
            apply Free.walk_quiet rfl rfl
            · intro w' hg hf; clear hf
              go_simp <;> exact rfl
            apply Free.walk_quiet rfl rfl
            · intro w' hg hf; clear hf
              have hT := (hg.cell _ 0 (show w.heap.size < w2.drew.heap.size by simp; omega) (fun h => by rcases sx_low h with h | h <;> omega)).trans cT
              go_simp <;> exact rfl
            apply Free.walk_quiet rfl rfl
            · intro w' hg hf; clear hf
              go_simp <;> exact rfl
            apply Free.walk_quiet rfl rfl
            · intro w' hg hf; clear hf
              go_simp <;> exact rfl
            -- 9: the second append
            apply Free.walk_loud rfl rfl
            · intro w' hg hf
              have hwB : w1.heap.size ≤ w'.heap.size := by have := hg.size; simp at this; have := hk12.size; omega
              have hown' : w'.ownsRow w1.heap.size 3 1 v4 (k + 1) (ints (l.take k) ++ [.int .i64 (a / 16)]) := (show FM w1.heap.size (w.heap.size + 1) l k (a / 16) 4 v4 w' from by simpa using hf 4 (by decide) (by kernel_rfl))
              have hs8 := ((hh.out.keeps (hW _ _ (fun b h => sx_low h) hg)).tail1 k hk)
              clear hf
              refine Free.loud_append (.tmp 43) (.tmp 47) 25 rfl w1.heap.size 3 i0 (.int .i64 0) 1 8 Try.underlying25 hi hz0' hz1 hz2 rfl (by decide) v4 (k + 1) _ (by simp [Act.eval, Act.put]) hown' (.slice (if c1 = k then some ⟨g1, o1, none⟩ else some ⟨g1, o1 + k, none⟩) (l.length - k) (c1 - k)) (l.length - k) (ints (l.drop k)) (by simp [Act.eval, Act.put]) (by simpa [List.map_drop] using hs8) (ints_one _) (by simp only [maxLen]; omega) (by omega) hwB ?_
              intro v' w'' ho hgr
              exact ⟨ho, Free.KeepsP.grown hgr (fun b hb => (hown'.lt b hb).1)⟩
            intro v9
            refine Free.walk_quiet (c := .agg #[v9]) rfl rfl ?_ ?_
            · intro w' hg hf
              have h9 : w'.ownsRow w1.heap.size 3 1 v9 (k + 1 + (l.length - k)) (ints (l.take k) ++ [.int .i64 (a / 16)] ++ ints (l.drop k)) := (show FM w1.heap.size (w.heap.size + 1) l k (a / 16) 9 v9 w' from by simpa using hf 9 (by decide) (by kernel_rfl))
              clear hf
              obtain ⟨g9, c9, rfl, _⟩ := ownsRow_pos h9 (by omega)
              go_simp
              all_goals exact rfl
            apply Free.walk_loud rfl rfl
            · intro w' hg hf
              have h9 : w'.ownsRow w1.heap.size 3 1 v9 (k + 1 + (l.length - k)) (ints (l.take k) ++ [.int .i64 (a / 16)] ++ ints (l.drop k)) := (show FM w1.heap.size (w.heap.size + 1) l k (a / 16) 9 v9 w' from by simpa using hf 9 (by decide) (by kernel_rfl))
              clear hf
              have h91 : Free.plainCell v9 = true := owns_one h9
              have hR := (hg.cell (w.heap.size + 1) 0 (by simpa using lT) (fun h => by obtain ⟨kk, hne, _, hT⟩ := h; exact TM_11 hne hz hT)).trans cR
              have fR' := (hg.frozen (w.heap.size + 1) 0 (by simpa using lT) (fun h => by obtain ⟨kk, hne, _, hT⟩ := h; exact TM_11 hne hz hT)).trans fR
              refine Free.loud_store1 27 (.tmp 4) (.tmp 49) rfl (fun w => by kernel_rfl) (w.heap.size + 1) 0 v9 _ (by simp [Act.eval, Act.put]) (by simp [Act.eval, Act.put]) h91 hR fR' ?_
              exact ⟨⟨v9, World.cell?_setCell_same' _ _ _ (by simp [hR]), ownsRow_block h9 (fun b hb hlt => Below.heap_setCell _ _ _ _ (by simp; omega))⟩, Free.KeepsP.setCell (S := TM w1.heap.size (w.heap.size + 1) 11) w' (p := ⟨w.heap.size + 1, 0, none⟩) (show TM w1.heap.size (w.heap.size + 1) 11 (w.heap.size + 1) from rfl) _⟩
            intro _
            apply Free.walk_quiet rfl rfl
            · intro w' hg hf; clear hf
              go_simp <;> exact rfl
            refine Free.walk_nil ?_
            intro w3 hg hf
            obtain ⟨v, cv, hv⟩ : FM w1.heap.size (w.heap.size + 1) l k (a / 16) 11 undef w3 := by simpa [FM] using hf 11 (by decide) (by kernel_rfl)
            have hw3 := hW _ _ (fun b h => by obtain ⟨kk, hT⟩ := h; exact TM_low hT) hg
            clear hf hg hown2 hgrow2
            go_wp2
            all_goals exact bodyPost_ret (v := .tuple #[.agg #[v], .int .i64 0]) (by simp [results, f23_results, go_sem, cv]) rfl ⟨v, rfl, tail_val hk (fun h => by have := hstop.out h; omega) (fun j h h' => hno.out j h h') hasc hin.out hv, hw3⟩
end Go.Proofs.Ytekeabjclamfhaa
