/- Texts that the laws lean on, in the order in which they build. Entries added in another order; a row removed and added again; the entry of a target: plain. The law Reuse, walked. (Printed by mkscrs.py.) Identities and bytes among a law's arguments, opened. (Printed by mkscoi.py.) append(append(append([]E{}, ..), x), ..) in one region that draws its order: the facts of its operations. Of whatever program. The law Finds, walked. (Printed by mkscfd.py.) The law Order, walked. (Printed by mkscor.py.) The law Removes, walked. (Printed by mkscrm.py.) -/
import Derived.Test.YtblaaafpglomnaaK9
set_option linter.unusedVariables false
set_option linter.unusedSimpArgs false
namespace Go.Proofs.Ytblaaafpglomnaa
open Go.RowKit Go

theorem klt_asymm {x y : Ky} (h : klt x y) : ¬ klt y x := fun h' => klt_irrefl x (klt_trans h h')
theorem sorted_eq {S T : List Rw} (hS : SortedS S) (hT : SortedS T) (hp : S.Perm T) : S = T :=
  List.Perm.eq_of_pairwise (le := fun x y => klt x.1.key y.1.key) (fun _ _ _ _ h h' => absurd h' (klt_asymm h)) (show S.Pairwise (fun x y => klt x.1.key y.1.key) from hS) (show T.Pairwise (fun x y => klt x.1.key y.1.key) from hT) hp
abbrev OpT.rw (x : OpT) : Rw := (x.e, x.h)
/-- The operations that were added. -/
structure Added (S : List Rw) (A : List OpT) : Prop where
  g : Good S
  p : S.Perm (A.map OpT.rw)
  v : ∀ x ∈ A, x.e.val = true ∧ 1 ≤ x.h
def stA (p : List Rw × List OpT) (x : OpT) : List Rw × List OpT := ((addS x.e x.h p.1).2, if (addS x.e x.h p.1).1 = 0 then p.2 ++ [x] else p.2)
def runA (l : List OpT) : List Rw × List OpT := l.foldl stA ([], [])
theorem runA_snoc (l : List OpT) (x : OpT) : runA (l ++ [x]) = stA (runA l) x := by simp [runA]
theorem addS_zero {e : En} {h : Int} {S : List Rw} (ha : (addS e h S).1 = 0) : e.val = true ∧ 1 ≤ h ∧ fnd e.key S = none ∧ S.length < 1024 ∧ (addS e h S).2 = ins (e, h) S := by
  unfold addS at ha ⊢
  split at ha
  · cases ha
  · rename_i h1
    split at ha
    · cases ha
    · rename_i h2
      split at ha
      · cases ha
      · rename_i h3
        rw [if_neg h1, if_neg h2, if_neg h3]
        refine ⟨by cases hv : e.val <;> simp_all, by omega, by simpa using h2, by omega, rfl⟩
theorem addS_ok {e : En} {h : Int} {S : List Rw} (hv : e.val = true) (hh : 1 ≤ h) (hn : fnd e.key S = none) (hl : S.length < 1024) : addS e h S = (0, ins (e, h) S) := by
  unfold addS
  rw [if_neg (by simp [hv]; omega), if_neg (by simp [hn]), if_neg (by omega)]
theorem addS_ne {e : En} {h : Int} {S : List Rw} (ha : (addS e h S).1 ≠ 0) : (addS e h S).2 = S := by
  unfold addS at ha ⊢
  split
  · rfl
  · split
    · rfl
    · split
      · rfl
      · rename_i h1 h2 h3; exact absurd (by rw [if_neg h1, if_neg h2, if_neg h3]) ha
theorem Added.nil : Added [] [] := ⟨Good.nil, List.Perm.refl _, by simp⟩
theorem Added.step {p : List Rw × List OpT} {x : OpT} (h : Added p.1 p.2) (hx : x.ok) : Added (stA p x).1 (stA p x).2 := by
  unfold stA
  simp only
  by_cases ha : (addS x.e x.h p.1).1 = 0
  · rw [if_pos ha]
    obtain ⟨h1, h2, h3, h4, h5⟩ := addS_zero ha
    refine ⟨h.g.add hx.e hx.h, ?_, ?_⟩
    · rw [h5, List.map_append]
      exact (ins_perm _ _).trans (((h.p.cons _)).trans (List.perm_append_comm (l₁ := [x.rw])))
    · intro y hy
      rcases List.mem_append.1 hy with hy | hy
      · exact h.v y hy
      · simp at hy; subst hy; exact ⟨h1, h2⟩
  · rw [if_neg ha]
    exact ⟨by rw [addS_ne ha]; exact h.g, by rw [addS_ne ha]; exact h.p, h.v⟩
theorem added_fold : ∀ (l : List OpT) (p : List Rw × List OpT), Added p.1 p.2 → (∀ x ∈ l, x.ok) → Added (l.foldl stA p).1 (l.foldl stA p).2
  | [], _, h, _ => h
  | x :: l, p, h, ho => added_fold l _ (h.step (ho x (by simp))) (fun y hy => ho y (by simp [hy]))
theorem runA_added {l : List OpT} (ho : ∀ x ∈ l, x.ok) : Added (runA l).1 (runA l).2 := added_fold l _ Added.nil ho
theorem runA_sub' : ∀ (l : List OpT) (p : List Rw × List OpT), (l.foldl stA p).2.length ≤ p.2.length + l.length ∧ ∀ x ∈ (l.foldl stA p).2, x ∈ p.2 ∨ x ∈ l
  | [], p => ⟨by simp, fun x h => .inl h⟩
  | y :: l, p => by
    obtain ⟨h1, h2⟩ := runA_sub' l (stA p y)
    have h3 : (stA p y).2.length ≤ p.2.length + 1 := by
      unfold stA; simp only; split
      · simp
      · omega
    have h4 : ∀ x ∈ (stA p y).2, x ∈ p.2 ∨ x = y := by
      intro x hx
      unfold stA at hx; simp only at hx
      split at hx
      · simpa using hx
      · exact .inl hx
    refine ⟨by simp only [List.foldl_cons, List.length_cons]; omega, fun x hx => ?_⟩
    rcases h2 x hx with h | h
    · rcases h4 x h with h | rfl
      · exact .inl h
      · exact .inr (by simp)
    · exact .inr (by simp [h])
theorem runA_len (l : List OpT) : (runA l).2.length ≤ l.length := by simpa [runA] using (runA_sub' l ([], [])).1
theorem runA_mem {l : List OpT} {x : OpT} (h : x ∈ (runA l).2) : x ∈ l := by simpa using (runA_sub' l ([], [])).2 x h
/-- The table out of a list of rows, one after the other. -/
def insA (B : List OpT) : List Rw := B.foldl (fun T x => ins x.rw T) []
theorem insA_snoc (B : List OpT) (x : OpT) : insA (B ++ [x]) = ins x.rw (insA B) := by simp [insA]
theorem insA_perm' : ∀ (B : List OpT) (T : List Rw), (B.foldl (fun T x => ins x.rw T) T).Perm (B.map OpT.rw ++ T)
  | [], T => List.Perm.refl _
  | x :: B, T => ((insA_perm' B _).trans ((ins_perm x.rw T).append_left _)).trans (List.perm_middle (l₁ := B.map OpT.rw) (a := x.rw) (l₂ := T))
theorem insA_perm (B : List OpT) : (insA B).Perm (B.map OpT.rw) := by have := insA_perm' B []; rw [List.append_nil] at this; exact this
theorem insA_len (B : List OpT) : (insA B).length = B.length := by rw [(insA_perm B).length_eq]; simp
def DK (B : List OpT) : Prop := B.Pairwise (fun x y => x.e.key ≠ y.e.key)
theorem fnd_insA {B : List OpT} {k : Ky} (h : ∀ x ∈ B, x.e.key ≠ k) : fnd k (insA B) = none := by
  rw [fnd_none]
  intro r hr
  obtain ⟨x, hx, rfl⟩ := List.mem_map.1 ((insA_perm B).mem_iff.1 hr)
  exact h x hx
theorem good_insA' : ∀ (n : Nat) (B : List OpT), B.length = n → DK B → (∀ x ∈ B, x.ok ∧ x.e.val = true ∧ 1 ≤ x.h) → B.length ≤ 1024 → Good (insA B)
  | 0, B, hn, _, _, _ => by obtain rfl := List.length_eq_zero_iff.1 hn; exact Good.nil
  | n + 1, B, hn, hd, ho, hl => by
    have hne : B ≠ [] := by intro e; rw [e] at hn; simp at hn
    have e := List.dropLast_concat_getLast hne
    rw [← e] at hd ho hl ⊢
    rw [insA_snoc]
    unfold DK at hd
    rw [List.pairwise_append] at hd
    simp only [List.length_append, List.length_singleton] at hl
    have hL := ho (B.getLast hne) (by simp)
    refine (good_insA' n B.dropLast (by rw [List.length_dropLast]; omega) hd.1 (fun x hx => ho x (by simp [hx])) (by omega)).ins hL.1.e hL.2.1 hL.2.2 hL.1.h ?_ ?_
    · exact fnd_insA (fun x hx => hd.2.2 x hx _ (by simp))
    · rw [insA_len]; omega
theorem good_insA {B : List OpT} (hd : DK B) (ho : ∀ x ∈ B, x.ok ∧ x.e.val = true ∧ 1 ≤ x.h) (hl : B.length ≤ 1024) : Good (insA B) := good_insA' _ B rfl hd ho hl
def rot (n : Nat) (A : List OpT) : List OpT := A.drop (n % A.length) ++ A.take (n % A.length)
theorem rot_perm (n : Nat) (A : List OpT) : (rot n A).Perm A := by
  unfold rot
  exact (List.perm_append_comm).trans (by rw [List.take_append_drop])
theorem rot_len (n : Nat) (A : List OpT) : (rot n A).length = A.length := (rot_perm n A).length_eq
theorem rot_aux (A : List OpT) (i r : Nat) (hi : i < A.length) (hm : r < A.length) : (A.drop r ++ A.take r)[i]? = A[(i + r) % A.length]? := by
  by_cases h : i < A.length - r
  · rw [List.getElem?_append_left (by rw [List.length_drop]; exact h), List.getElem?_drop, Nat.mod_eq_of_lt (show i + r < A.length by omega), Nat.add_comm]
  · have hx : i + r = (i + r - A.length) + A.length := by omega
    rw [List.getElem?_append_right (by rw [List.length_drop]; omega), hx, Nat.add_mod_right, Nat.mod_eq_of_lt (show i + r - A.length < A.length by omega), List.length_drop, List.getElem?_take_of_lt (by omega)]
    congr 1
    omega
theorem rot_get (n : Nat) (A : List OpT) (i : Nat) (hi : i < A.length) : (rot n A)[i]'(by rw [rot_len]; exact hi) = A[(i + n) % A.length]'(Nat.mod_lt _ (by omega)) := by
  have he : (i + n) % A.length = (i + n % A.length) % A.length := by rw [Nat.add_mod, Nat.mod_eq_of_lt hi]
  have h := rot_aux A i (n % A.length) hi (Nat.mod_lt n (by omega))
  rw [← he, List.getElem?_eq_getElem (by have := rot_len n A; unfold rot at this; omega), List.getElem?_eq_getElem (Nat.mod_lt _ (by omega))] at h
  exact Option.some.inj h
theorem Added.dk {S : List Rw} {A : List OpT} (h : Added S A) : DK A := by
  have h1 : S.Pairwise (fun x y => x.1.key ≠ y.1.key) := h.g.srt.imp (fun h => klt_ne h)
  have h2 := (List.Perm.pairwise_iff (R := fun x y : Rw => x.1.key ≠ y.1.key) (fun h e => h e.symm) h.p).1 h1
  exact (List.pairwise_map (f := OpT.rw) (R := fun x y : Rw => x.1.key ≠ y.1.key)).1 h2
theorem DK.perm {A B : List OpT} (h : DK A) (hp : A.Perm B) : DK B := (List.Perm.pairwise_iff (R := fun x y : OpT => x.e.key ≠ y.e.key) (fun h e => h e.symm) hp).1 h
/-- Added again in another order, every entry is taken, and the table is the same. -/
theorem again {S : List Rw} {A B : List OpT} (h : Added S A) (hB : B.Perm A) (ho : ∀ x ∈ A, x.ok) (hl : A.length ≤ 1000) :
    (∀ k, Good (insA (B.take k))) ∧ (∀ k (hk : k < B.length), addS B[k].e B[k].h (insA (B.take k)) = (0, insA (B.take (k + 1)))) ∧ insA B = S := by
  have hd := h.dk.perm hB.symm
  have hlB : B.length = A.length := hB.length_eq
  have hoB : ∀ x ∈ B, x.ok ∧ x.e.val = true ∧ 1 ≤ x.h := fun x hx => ⟨ho x (hB.mem_iff.1 hx), h.v x (hB.mem_iff.1 hx)⟩
  have hG : ∀ k, Good (insA (B.take k)) := fun k => good_insA (List.Pairwise.sublist (List.take_sublist k B) hd) (fun x hx => hoB x (List.mem_of_mem_take hx)) (by rw [List.length_take]; omega)
  refine ⟨hG, fun k hk => ?_, ?_⟩
  · have hb := hoB B[k] (List.getElem_mem hk)
    have e : B.take (k + 1) = B.take k ++ [B[k]] := by rw [List.take_add_one, List.getElem?_eq_getElem hk]; rfl
    rw [e, insA_snoc]
    refine addS_ok hb.2.1 hb.2.2 (fnd_insA ?_) (by rw [insA_len, List.length_take]; omega)
    intro x hx
    have hd2 : DK (B.take (k + 1)) := List.Pairwise.sublist (List.take_sublist _ B) hd
    rw [e] at hd2
    unfold DK at hd2
    rw [List.pairwise_append] at hd2
    exact hd2.2.2 x hx _ (by simp)
  · have hg := hG B.length
    rw [List.take_length] at hg
    refine sorted_eq hg.srt h.g.srt ((insA_perm B).trans ?_)
    exact (hB.map _).trans h.p.symm
/-- A row removed and added with another handle. -/
structure Back (S : List Rw) (i : Nat) (e : En) (h' : Int) : Prop where
  f : ∃ hd, fnd e.key S = some (e, hd) ∧ remS e.key S = (hd, 0, dele e.key S)
  l : lst (dele e.key S) = (lst S).take i ++ (lst S).drop (i + 1)
  g : Good (dele e.key S)
  a : addS e h' (dele e.key S) = (0, ins (e, h') (dele e.key S))
  g2 : Good (ins (e, h') (dele e.key S))
  f2 : fnd e.key (ins (e, h') (dele e.key S)) = some (e, h')
  l2 : lst (ins (e, h') (dele e.key S)) = lst S
  w : e.ok
theorem back {S : List Rw} (g : Good S) {i : Nat} (hi : i < (lst S).length) {h' : Int} (hh : 1 ≤ h') (hw : W64 h') : Back S i (lst S)[i] h' := by
  have hi2 : i < S.length := by simpa [lst] using hi
  have he : (lst S)[i] = S[i].1 := by simp [lst]
  rw [he]
  have hm := List.getElem_mem hi2
  have hf := fnd_mem g.srt hm
  have hok := g.ok _ hm
  have hlt : (dele S[i].1.key S).length < S.length := by
    rw [dele_drop hi2 g.srt rfl]; simp; omega
  have hn : fnd S[i].1.key (dele S[i].1.key S) = none := by
    rw [fnd_none]; intro r hr; exact (mem_dele.1 hr).2
  have hgl := g.len
  have hgi := (g.dele (k := S[i].1.key)).ins hok.1 hok.2.1 hh hw hn (by omega)
  have hset : ins (S[i].1, h') (dele S[i].1.key S) = S.set i (S[i].1, h') := by
    refine sorted_eq (sorted_ins (sorted_dele g.srt) hn) ?_ ?_
    · rw [← upd_set (r := (S[i].1, h')) hi2 g.srt rfl]; exact sorted_upd g.srt
    · refine (ins_perm _ _).trans ?_
      rw [dele_drop hi2 g.srt rfl, List.set_eq_take_append_cons_drop, if_pos hi2]
      exact (List.perm_middle).symm
  refine ⟨⟨S[i].2, hf, ?_⟩, ?_, g.dele, addS_ok hok.2.1 hh hn (by omega), hgi, ?_, ?_, hok.1⟩
  · unfold remS; rw [hf]
  · rw [dele_drop hi2 g.srt rfl]; simp [lst]
  · exact fnd_mem hgi.srt (r := (S[i].1, h')) ((ins_perm _ _).mem_iff.2 (by simp))
  · rw [hset]
    unfold lst
    rw [List.map_set]
    apply List.ext_getElem
    · simp
    · intro j h1 h2
      rw [List.getElem_set]
      split
      · rename_i e; subst e; simp
      · rfl
/-- What ForTarget gives. -/
structure Reuse (c m s : Int) (S : List Rw) : Prop where
  no : ∀ x ∈ lst S, x.cl = c → x.im = m → x.is = s → x.gb = false → (m = 0 ∧ s = 0) ∨ ∃ e, forT c m s S = some e ∧ e.n ≤ x.n
  is : ∀ e, forT c m s S = some e → (fnd e.key S).isSome = true ∧ e.cl = c ∧ e.im = m ∧ e.is = s ∧ e.gb = false
theorem reuse {S : List Rw} (g : Good S) (c m s : Int) : Reuse c m s S := by
  refine ⟨fun x hx h1 h2 h3 h4 => ?_, fun e he => ?_⟩
  · obtain ⟨r, hr, rfl⟩ := List.mem_map.1 hx
    have hv := (g.ok r hr).2.1
    rw [val_iff] at hv
    have ho := oID_iff.1 hv.2.1
    rw [h2, h3] at ho
    rcases ho with ho | ho
    · exact .inl ho
    right
    have hvi : vID m s = true := by unfold vID; simpa using ho
    have ht : isT c m s r.1 = true := by unfold isT; simp [h1, h2, h3, h4]
    unfold forT
    rw [if_pos hvi]
    cases hf : (lst S).find? (isT c m s) with
    | none =>
      rw [List.find?_eq_none] at hf
      exact absurd ht (hf _ hx)
    | some e =>
      refine ⟨e, rfl, ?_⟩
      obtain ⟨hp, la, lb, hl, hno⟩ := List.find?_eq_some_iff_append.1 hf
      have hsl : (lst S).Pairwise (fun a b => klt a.key b.key) := List.pairwise_map.2 g.srt
      have hecl : e.cl = c := by
        unfold isT at hp; simp at hp; exact hp.1
      rw [hl] at hx hsl
      rcases List.mem_append.1 hx with h | h
      · have := hno _ h
        rw [ht] at this
        cases this
      · rcases List.mem_cons.1 h with h | h
        · rw [h]; exact Nat.le_refl _
        · have := (List.pairwise_cons.1 (List.pairwise_append.1 hsl).2.1).1 _ h
          unfold klt at this
          simp only at this
          omega
  · unfold forT at he
    split at he
    · have hm := List.mem_of_find?_eq_some he
      have hp := List.find?_some he
      obtain ⟨r, hr, rfl⟩ := List.mem_map.1 hm
      unfold isT at hp
      simp at hp
      exact ⟨by rw [fnd_mem g.srt hr]; rfl, hp.1, hp.2.1.1, hp.2.1.2, hp.2.2⟩
    · cases he
end Go.Proofs.Ytblaaafpglomnaa

namespace Go.Proofs.Ytblaaafpglomnaa
open Go Go.RowKit
attribute [local go_sem] Oper.semAt_some

set_option maxRecDepth 100000 in
set_option maxHeartbeats 8000000 in
theorem reuse_c (w : World) (v0 : Value) (l : List OpT) (c m s : Int) (h : shO.R w v0 l) (hok : ∀ o ∈ l, o.ok) (_ : W64 c) (_ : W64 m) (_ : W64 s) :
    Calls Try.prog 6 #[v0, .int .i64 c, idV m s] w fun e w' => e = .returned (.bool true) ∧ Keeps [] w w' := by
  obtain ⟨a0, c0, rfl, hlc, hcm, _⟩ := h.form
  obtain ⟨M, hM⟩ : ∃ N, l.length = N := ⟨_, rfl⟩
  have hk0 : Keeps [] w (w.alloc (.cells #[.int .i64 m, .int .i64 s] tID)) := (Keeps.refl _ _).alloc _
  have hbI := heap_alloc_new w (.cells #[.int .i64 m, .int .i64 s] tID)
  obtain ⟨I, hI⟩ : ∃ I, w.heap.size = I := ⟨_, rfl⟩
  rw [hI] at hbI
  rw [hM] at hlc h ⊢
  have hMx : M ≤ 9223372036854775807 := by unfold Go.maxLen at hcm; omega
  have haw := fun W => awake_c W
  replace hM := Lib.hid hM
  replace h := Lib.hid h
  replace hok := Lib.hid hok
  replace haw := Lib.hid haw
  replace hk0 := Lib.hid hk0
  replace hbI := Lib.hid hbI
  by_cases hbig : 40 < M
  · have hb2 : (40 : Int) < M := by omega
    go_enter Try.func6, Try.ntmps6
    go_wp2_with fail
    refine (haw.out _).mono ?_
    rintro e w1 ⟨rfl, hk1⟩
    replace hk1 := Lib.hid hk1
    go_wp2
    go_ret
    exact ⟨rfl, hk0.out.trans hk1.out⟩
  have hb2 : decide ((40 : Int) < M) = false := by simp; omega
  have hgS := runS_good hok.out
  have hlS := runS_len l
  rw [hM.out] at hlS
  have hrc := run_c (w.alloc (.cells #[.int .i64 m, .int .i64 s] tID)) _ l (h.out.keeps hk0.out) hok.out (by rw [hM.out]; omega)
  have hre := reuse hgS c m s
  have hky : ∀ r ∈ runS l, r.1.ok := fun r hr => (hgS.ok r hr).1
  obtain ⟨S, hSe⟩ : ∃ S, runS l = S := ⟨_, rfl⟩
  rw [hSe] at hgS hlS hrc hre hky
  have hft := fun W bt bm t => forTarget_c W bt bm S c m s t hgS
  have hl1 := fun W bt bm t => list_c W bt bm S t hgS
  obtain ⟨F, hF⟩ : ∃ F, forT c m s S = F := ⟨_, rfl⟩
  obtain ⟨r1, r2⟩ := hre
  rw [hF] at r1 r2
  simp only [hF] at hft
  obtain ⟨e, hE⟩ : ∃ e, F.getD .zero = e := ⟨_, rfl⟩
  obtain ⟨b, hB⟩ : ∃ b, F.isSome = b := ⟨_, rfl⟩
  simp only [hE, hB] at hft
  have hkE : kOk e.key := by
    cases F with
    | none => simp at hE; subst hE; exact ⟨by decide, by decide⟩
    | some x =>
      simp at hE; subst hE
      have := (r2 x rfl).1
      rw [Option.isSome_iff_exists] at this
      obtain ⟨r, hr⟩ := this
      obtain ⟨h1, h2⟩ := fnd_some hr
      rw [← h2]
      exact ⟨(hky r h1).cl, (hky r h1).n⟩
  have r1' : ∀ x ∈ lst S, x.cl = c → x.im = m → x.is = s → x.gb = false → (m = 0 ∧ s = 0) ∨ (b = true ∧ e.n ≤ x.n) := by
    intro x hx h1 h2 h3 h4
    rcases r1 x hx h1 h2 h3 h4 with h | ⟨e', he', hl⟩
    · exact .inl h
    · subst he'
      simp at hE hB
      subst hE
      exact .inr ⟨hB, hl⟩
  have r2' : b = true → (fnd e.key S).isSome = true ∧ e.cl = c ∧ e.im = m ∧ e.is = s ∧ e.gb = false := by
    intro hb
    subst hb
    rw [Option.isSome_iff_exists] at hB
    obtain ⟨e', he'⟩ := hB
    subst he'
    simp at hE
    subst hE
    exact r2 e' rfl
  have hfd := fun W bt bm t => find_c W bt bm S e.cl e.n t hkE
  rw [show (e.cl, e.n) = e.key from rfl] at hfd
  obtain ⟨b2, hb2'⟩ : ∃ b, (fnd e.key S).isSome = b := ⟨_, rfl⟩
  rw [hb2'] at r2'
  obtain ⟨⟨⟨g0, g1, g2, g3, g4, g5, g6, g7, g8, g9, g10, g11⟩, gh⟩, hG⟩ : ∃ r, (fnd e.key S).getD (.zero, 0) = r := ⟨_, rfl⟩
  simp only [hG, hb2'] at hfd
  obtain ⟨e0, e1, e2, e3, e4, e5, e6, e7, e8, e9, e10, e11⟩ := e
  simp only at r1' r2' hfd
  simp only [enV] at hft hfd
  obtain ⟨L1, hL1⟩ : ∃ L, lst S = L := ⟨_, rfl⟩
  rw [hL1] at r1'
  simp only [hL1] at hl1
  obtain ⟨N, hN⟩ : ∃ N, L1.length = N := ⟨_, rfl⟩
  have hN1 : N ≤ 100 := by
    rw [← hN, ← hL1]
    simp only [lst, List.length_map]; omega
  replace hrc := Lib.hid hrc
  replace hft := Lib.hid hft
  replace hfd := Lib.hid hfd
  replace hl1 := Lib.hid hl1
  replace hN := Lib.hid hN
  replace r1' := Lib.hid r1'
  replace r2' := Lib.hid r2'
  clear r1 r2 hgS hlS hky hSe hkE hE hB hF hL1 hG hb2'
  go_enter Try.func6, Try.ntmps6
  go_wp2_with fail
  refine hrc.out.mono ?_
  rintro e w1 ⟨bt, bm, v1, rfl, t1, hR1, k1, hb1, hb2'⟩
  obtain ⟨a1, c1, rfl, _⟩ := hR1.form
  have hkB : Keeps [] w1 (w1.alloc (.cells #[.slice a1 S.length c1] tTb)) := (Keeps.refl _ _).alloc _
  have t2 := Lib.hid (t1.keeps hkB)
  have hk2 := Lib.hid (hk0.out.trans (k1.trans hkB))
  have hbI1 := ((k1.trans hkB).block I (lt_of_blk hbI.out) (by simp)).trans hbI.out
  obtain ⟨i0, i1, _⟩ := cells2 hbI1
  replace hbI1 := Lib.hid hbI1
  clear hrc t1 hR1 k1 hkB hbI hk0
  go_wp2_with fail
  refine (hft.out _ bt bm t2.out).mono ?_
  rintro e w3 ⟨rfl, k3⟩
  have hkC : Keeps [] w3 (w3.alloc (.cells #[.int .i64 e0, .int .u64 e1, .int .i64 e2, .int .i64 e3, .int .i64 e4, .int .i64 e5, .int .i64 e6, .bool e7, .bool e8, .bool e9, .int .i64 e10, .int .i64 e11] tE)) := (Keeps.refl _ _).alloc _
  have hbE := heap_alloc_new w3 (.cells #[.int .i64 e0, .int .u64 e1, .int .i64 e2, .int .i64 e3, .int .i64 e4, .int .i64 e5, .int .i64 e6, .bool e7, .bool e8, .bool e9, .int .i64 e10, .int .i64 e11] tE)
  have hk3 := Lib.hid (hk2.out.trans (k3.trans hkC))
  have t3 := Lib.hid (t2.out.keeps (k3.trans hkC))
  have hbI3 := ((k3.trans hkC).block I (lt_of_blk hbI1.out) (by simp)).trans hbI1.out
  obtain ⟨X, hX⟩ : ∃ X, w3.heap.size = X := ⟨_, rfl⟩
  rw [hX] at hbE
  replace hbE := Lib.hid hbE
  replace hbI3 := Lib.hid hbI3
  clear i0 i1 k3 hkC t2 hk2 hft hbI1
  go_wp2_with fail
  refine (hl1.out _ bt bm t3.out).mono ?_
  rintro e w4 ⟨v4, rfl, hO4, k4⟩
  have t4 := Lib.hid (t3.out.keeps k4)
  have hk4 := Lib.hid (hk3.out.trans k4)
  have hR4 := hO4.r
  obtain ⟨a4, c4, rfl⟩ := hO4.form
  rw [hN.out] at hR4 ⊢
  have hbE4 := Lib.hid ((k4.block X (lt_of_blk hbE.out) (by simp)).trans hbE.out)
  have hbI4 := Lib.hid ((k4.block I (lt_of_blk hbI3.out) (by simp)).trans hbI3.out)
  replace hR4 := Lib.hid hR4
  clear hO4 k4 t3 hk3 hl1 hbE hbI3
  go_wp2
  go_loopw [39] (fun iv wr => ∃ k : Nat, iv = .int .i64 k ∧ k ≤ N ∧ Hid (Keeps [] w4 wr)) (fun iv _ => N - (intOf iv).toNat)
  case atStart => exact ⟨0, rfl, by omega, Lib.hid (Keeps.refl _ _)⟩
  case round =>
    obtain ⟨k, rfl, hk, hkw⟩ := hrel
    by_cases hlt : k < N
    · have hk2 : k < L1.length := by rw [hN.out]; exact hlt
      have hlt2 : (k : Int) < N := by omega
      obtain ⟨g, o, d, hv, hel⟩ := (hR4.out.keeps hkw.out).elem hk2
      rw [hN.out] at hv
      cases hv
      have hr1 := r1'.out L1[k] (List.getElem_mem hk2)
      obtain ⟨⟨x0, x1, x2, x3, x4, x5, x6, x7, x8, x9, x10, x11⟩, hx⟩ : ∃ e, L1[k] = e := ⟨_, rfl⟩
      rw [hx] at hel hr1
      simp only at hr1
      have f0 := hel 0 _ rfl
      have f1 := hel 1 _ rfl
      have f2 := hel 2 _ rfl
      have f3 := hel 3 _ rfl
      have f4 := hel 4 _ rfl
      have f5 := hel 5 _ rfl
      have f6 := hel 6 _ rfl
      have f7 := hel 7 _ rfl
      have f8 := hel 8 _ rfl
      have f9 := hel 9 _ rfl
      have f10 := hel 10 _ rfl
      have f11 := hel 11 _ rfl
      simp only [shE, En.cs, Nat.add_zero] at f0 f1 f2 f3 f4 f5 f6 f7 f8 f9 f10 f11
      have hgx := lt_of_cell f0
      have hkA := Lib.hid (hkw.out.trans ((Keeps.refl [] wr).alloc (.cells #[.int .i64 x0, .int .u64 x1, .int .i64 x2, .int .i64 x3, .int .i64 x4, .int .i64 x5, .int .i64 x6, .bool x7, .bool x8, .bool x9, .int .i64 x10, .int .i64 x11] tE)))
      obtain ⟨i0, i1, hIl⟩ := cells2 ((hkw.out.block I (lt_of_blk hbI4.out) (by simp)).trans hbI4.out)
      obtain ⟨q0, q1, q2, q3, q4, q5, q6, q7, q8, q9, q10, q11, hXl⟩ := cells12 ((hkw.out.block X (lt_of_blk hbE4.out) (by simp)).trans hbE4.out)
      have hqi := fun W => eqI W x2 x3 m s
      have hqz := fun W => neI W m s 0 0
      replace hx := Lib.hid hx
      clear hel hkw q2 q3 q4 q5 q6 q7 q8 q9 q10 q11
      by_cases hcl : x0 = c
      case neg =>
        clear hr1 hqi hqz
        have hc0 : (x0 == c) = false := by simpa using hcl
        go_wp2
        go_roundw
        case rel => exact ⟨k + 1, rfl, by omega, Lib.hid hkA.out⟩
        case measure => simp [intOf]; omega
      case pos =>
        have hc0 : (x0 == c) = true := by simpa using hcl
        replace hcl := Lib.hid hcl
        cases hid : (x2 == m && x3 == s)
        case false =>
          clear hr1 hqz
          have hq2 : (x2 == m && x3 == s) = false := hid
          simp only [hq2] at hqi
          go_wp2
          go_roundw
          case rel => exact ⟨k + 1, rfl, by omega, Lib.hid hkA.out⟩
          case measure => simp [intOf]; omega
        case true =>
          simp only [hid] at hqi
          have hid2 : x2 = m ∧ x3 = s := by simpa using hid
          cases x9 with
          | true =>
            clear hr1 hqz
            replace hid2 := Lib.hid hid2
            clear hid
            go_wp2
            go_roundw
            case rel => exact ⟨k + 1, rfl, by omega, Lib.hid hkA.out⟩
            case measure => simp [intOf]; omega
          | false =>
            replace hr1 := hr1 hcl.out hid2.1 hid2.2 rfl
            replace hid2 := Lib.hid hid2
            clear hid
            cases hz : (!(m == 0 && s == 0))
            case false =>
              clear hr1
              simp only [hz] at hqz
              go_wp2
              go_roundw
              case rel => exact ⟨k + 1, rfl, by omega, Lib.hid hkA.out⟩
              case measure => simp [intOf]; omega
            case true =>
              have hr2 : b = true ∧ e1 ≤ x1 := by
                rcases hr1 with h | h
                · obtain ⟨rfl, rfl⟩ := h; simp at hz
                · exact h
              obtain ⟨rfl, hle⟩ := hr2
              clear hr1
              simp only [hz] at hqz
              have hlu : decide ((x1 : Int) < (e1 : Int)) = false := by simp; omega
              go_wp2
              go_roundw
              case rel => exact ⟨k + 1, rfl, by omega, Lib.hid hkA.out⟩
              case measure => simp [intOf]; omega
    · have hkN : k = N := by omega
      obtain ⟨q0, q1, q2, q3, q4, q5, q6, q7, q8, q9, q10, q11, hXl⟩ := cells12 ((hkw.out.block X (lt_of_blk hbE4.out) (by simp)).trans hbE4.out)
      obtain ⟨i0, i1, hIl⟩ := cells2 ((hkw.out.block I (lt_of_blk hbI4.out) (by simp)).trans hbI4.out)
      have hlt2 : decide ((k : Int) < N) = false := by simp; omega
      have t5 := Lib.hid (t4.out.keeps hkw.out)
      replace hkN := Lib.hid hkN
      go_wp2_with fail
      refine (hfd.out _ bt bm t5.out).mono ?_
      rintro e w5 ⟨rfl, k5⟩
      have hbX := (k5.block X hXl (by simp)).trans ((hkw.out.block X (lt_of_blk hbE4.out) (by simp)).trans hbE4.out)
      have hbI5 := (k5.block I hIl (by simp)).trans ((hkw.out.block I (lt_of_blk hbI4.out) (by simp)).trans hbI4.out)
      have hk5 := Lib.hid ((hk4.out.trans hkw.out).trans (k5.trans ((Keeps.refl [] w5).alloc (.cells #[.int .i64 g0, .int .u64 g1, .int .i64 g2, .int .i64 g3, .int .i64 g4, .int .i64 g5, .int .i64 g6, .bool g7, .bool g8, .bool g9, .int .i64 g10, .int .i64 g11] tE))))
      clear q0 q1 q2 q3 q4 q5 q6 q7 q8 q9 q10 q11 i0 i1 k5
      obtain ⟨q0, q1, q2, q3, q4, q5, q6, q7, q8, q9, q10, q11, hXl⟩ := cells12 hbX
      obtain ⟨i0, i1, hIl⟩ := cells2 hbI5
      clear hbX hbI5
      cases b with
      | false =>
        go_wp2_with fail
        refine (haw.out _).mono ?_
        rintro e w7 ⟨rfl, hk7⟩
        replace hk7 := Lib.hid hk7
        go_wp2
        go_ret
        exact ⟨rfl, hk5.out.trans hk7.out⟩
      | true =>
        obtain ⟨rfl, rfl, rfl, rfl, rfl⟩ := r2'.out rfl
        have hqi := fun W => eqI W e2 e3 e2 e3
        simp only [beq_self_eq_true, Bool.and_self] at hqi
        have hcc : (e0 == e0) = true := by simp
        go_wp2_with fail
        refine (haw.out _).mono ?_
        rintro e w7 ⟨rfl, hk7⟩
        replace hk7 := Lib.hid hk7
        go_wp2
        go_ret
        exact ⟨rfl, hk5.out.trans hk7.out⟩
end Go.Proofs.Ytblaaafpglomnaa

namespace Go.Proofs.Ytblaaafpglomnaa
open Go Go.ChangeShapes Go.WideShapes Go.ChangeAt Go.RowKit
set_option maxRecDepth 100000 in
set_option maxHeartbeats 1000000 in
theorem open_id {H : Type} {enc : TypeId × Value → H} {W : World} {base : Nat} {r : Reach} {v : Value} {d : DataW H} {ps : List MemPlace} (hv : Value.okWide Try.prog W r base 36 v)
    (h : DataW.Trod enc Try.prog W 0 (fun _ => true) true 36 v d ps) : ∃ (a s : Int), v = idV a s ∧ W64 a ∧ W64 s := by
  obtain ⟨a, s, hc, ha, hs⟩ := cs_id (Gen.Cs.of_agg h)
  obtain ⟨cs, rfl, _⟩ := okWide_struct Try.underlying36 hv
  refine ⟨a, s, ?_, ha, hs⟩
  have : cs.toList = [.int .i64 a, .int .i64 s] := hc
  rw [← Array.toArray_toList (xs := cs), this]
theorem u8_nat {x : Int} (h : (Lit.int .u8 x).wf = true) : ∃ n : Nat, x = n ∧ n < 256 := by
  have hb : 0 ≤ x ∧ x ≤ 255 := by simpa [Lit.wf, IntKind.min, IntKind.max, IntKind.signed, IntKind.bits] using h
  exact ⟨x.toNat, by omega, by omega⟩
end Go.Proofs.Ytblaaafpglomnaa

namespace Go.Proofs.Ytblaaafpglomnaa
open Go Go.RowKit

theorem run_append_empty {P : Program} {w : World} (base : Nat) (t ty e : TypeId) (i : TypeInfo) (z : Value) (size bytes : Nat) (ht : P.underlying t = some (.slice e)) (hi : P.info? e = some i) (hz : i.zero = some z)
    (hsize : i.size = size) (hby : i.bytes = bytes) (hzs : z.cells.size = size) (g : Nat) (hg : w.heap[g]? = some (.cells #[] e (0, 0))) (hgb : base ≤ g)
    (v2 : Value) (m : Nat) (ys : List Value) (hsl : Sl w size v2 m ys) (h1 : ∀ u ∈ ys, u.oneCell' = true) (h63 : m ≤ maxLen) (hbytes : m * bytes ≤ 140737488355328) (hbase : base ≤ w.heap.size) :
    ∃ v' w', (Builtin.append_ #[t, t] ty #[.slice (some ⟨g, 0, none⟩) 0 0, v2]).run P w = .ok v' w' ∧ w'.ownsRow base e size v' m ys ∧ w.grownBy w' none := by
  have hown : w.ownsRow base e size (.slice (some ⟨g, 0, none⟩) 0 0) 0 [] := ⟨by simp, .inr ⟨g, 0, #[], rfl, hgb, hg, Nat.le_refl _, by simp [maxLen], by simp, by simp⟩⟩
  subst hsize
  subst hby
  obtain ⟨hl, a, cap, rfl, _, _, h0, hc⟩ := hsl
  cases a with
  | none =>
    have hys : ys = [] := by
      cases ys with
      | nil => rfl
      | cons y r => obtain ⟨g, o, e, _⟩ := hc (by simp); cases e
    subst hys
    have hcap := h0 rfl
    subst hcap
    have hm : m = 0 := by omega
    subst hm
    exact ⟨_, w, run_append_owned_none (P := P) (w := w) base t ty e i i.size ht hi _ 0 [] hown, hown, ⟨rfl, rfl, rfl, Nat.le_refl _, fun _ _ _ => rfl⟩⟩
  | some ad =>
    have hcells : ∀ j u, ys[j]? = some u → w.cell? (ad.add j) = some u := by
      intro j u hj
      have hp : 0 < ys.length := by have := (List.getElem?_eq_some_iff.1 hj).1; omega
      obtain ⟨g, o, e, hc'⟩ := hc hp
      cases e
      rw [Go.WideShapes.add_plain]
      exact hc' j u hj
    by_cases hm : m = 0
    · subst hm
      have hys : ys = [] := List.eq_nil_of_length_eq_zero (by simpa using hl)
      subst hys
      have hr := run_append_room (P := P) w t ty e i ht hi g 0 0 #[] hg ad 0 cap [] (by simp) (by simp) (by simp) (by omega) (by simp)
      have hset := setRow_heap w g #[] (([] : List Value).take (0 * i.size) ++ [] ++ ([] : List Value).drop (0 * i.size + ([] : List Value).length)).toArray e (0, 0) hg
      refine ⟨_, _, hr, ⟨by simp, .inr ⟨g, 0, _, rfl, hgb, hset, Nat.le_refl _, by simp [maxLen], by simp, by simp⟩⟩, ⟨rfl, rfl, rfl, by simp, fun k hk _ => ?_⟩⟩
      by_cases hkg : k = g
      · subst hkg
        rw [hg]
        simpa using hset
      · exact setRow_other w g k _ hkg
    · have hr := run_append_grow (P := P) w t ty e i z ht hi hz ⟨g, 0, none⟩ 0 0 [] (by simp) (by simp) ad m cap ys hl hcells (by omega) (by simp only [maxLen] at h63; omega) (growslice_fits (by omega) (by simpa using hbytes))
      have hge := grownCap_ge w (0 + m) 0 e
      have hcm : grownCap w (0 + m) 0 e ≤ maxLen := grownCap_le_maxLen w (0 + m) 0 e (by omega)
      refine ⟨_, _, hr, ?_, ⟨rfl, rfl, rfl, by simp, fun k hk _ => heap_alloc_old w.drew _ hk⟩⟩
      simp only [Nat.zero_add] at hge hcm ⊢
      refine ⟨hl, .inr ⟨w.heap.size, _, _, rfl, hbase, heap_alloc_new w.drew _, hge, hcm, ?_, ?_⟩⟩
      · simp only [Array.size_append, List.size_toArray, size_zeroCells, hzs, hl, List.length_nil, Nat.zero_add, ← Nat.add_mul]
        congr 1
        omega
      · simp only [Array.toList_append, List.nil_append, List.append_assoc, ← hl]
        exact List.take_left
/-- `append(v, v2...)` onto an empty slice without room: nothing that was there is written. -/
theorem Sh.loud_app0 {α : Type} {P : Program} {o : Oper} {a : Act} {w : World} {R : Value → World → Prop} (s : Sh α) (B : Nat) {e t : TypeId} {z : Value} {by_ : Nat} (hinf : (P.info? e).map (fun i => (i.zero, i.size, i.bytes)) = some (some z, s.sz, by_)) (hz : z.cells.size = s.sz) (ht : P.underlying t = some (.slice e))
    (g : Nat) (v2 : Value) (M : List α) (x y : Operand) (ho : o.op = .call { callee := .builtin .append, args := #[x, y], argTypes := #[t, t] }) (hs : a.eval x = .slice (some ⟨g, 0, none⟩) 0 0) (hx : a.eval y = v2) (hg : w.heap[g]? = some (.cells #[] e (0, 0))) (hgb : B ≤ g) (hsl : s.R w v2 M)
    (hl : M.length * (by_ + 1) ≤ 140737488355328) (hB : B ≤ w.heap.size) (hR : ∀ v' w', s.O w' B e v' M → w.grownBy w' none → R v' w') : Free.Loud P o a w R := by
  obtain ⟨i0, hi, hz0, hz1, hz2⟩ := info_parts hinf
  have h1 : M.length ≤ M.length * (by_ + 1) := Nat.le_mul_of_pos_right _ (by omega)
  have h2 : M.length * by_ ≤ M.length * (by_ + 1) := Nat.mul_le_mul_left _ (by omega)
  obtain ⟨v', w', hr, h3, h4⟩ := run_append_empty (P := P) B t o.type e i0 z s.sz by_ ht hi hz0 hz1 hz2 hz g hg hgb v2 M.length (s.cs M) hsl (Sh.cs_one M) (by unfold maxLen; omega) (by omega) hB
  unfold Free.Loud execOp
  simp only [ho, resolve, invoke, builtin, Sem.run_bind, Sem.run_pure, Result.andThen_ok, List.map_toArray, List.map_cons, List.map_nil, hs, hx, hr]
  exact hR v' w' h3 h4
theorem Sh.loud_app {α : Type} {P : Program} {o : Oper} {a : Act} {w : World} {R : Value → World → Prop} (s : Sh α) (B : Nat) {e t : TypeId} {z : Value} {by_ : Nat} (hinf : (P.info? e).map (fun i => (i.zero, i.size, i.bytes)) = some (some z, s.sz, by_)) (hz : z.cells.size = s.sz) (ht : P.underlying t = some (.slice e))
    (v v2 : Value) (L M : List α) (x y : Operand) (ho : o.op = .call { callee := .builtin .append, args := #[x, y], argTypes := #[t, t] }) (hs : a.eval x = v) (hx : a.eval y = v2) (h : s.O w B e v L) (hsl : s.R w v2 M)
    (hl : (L.length + M.length) * (by_ + 1) ≤ 140737488355328) (hB : B ≤ w.heap.size) (hR : ∀ v' w', s.O w' B e v' (L ++ M) → Grw w w' v v' → R v' w') : Free.Loud P o a w R := by
  obtain ⟨i0, hi, hz0, hz1, hz2⟩ := info_parts hinf
  have h1 : L.length + M.length ≤ (L.length + M.length) * (by_ + 1) := Nat.le_mul_of_pos_right _ (by omega)
  have h2 : (L.length + M.length) * by_ ≤ (L.length + M.length) * (by_ + 1) := Nat.mul_le_mul_left _ (by omega)
  obtain ⟨v', w', hr, h3, h4, _⟩ := run_append_x (P := P) B t o.type e i0 z s.sz by_ ht hi hz0 hz1 hz2 hz s.pos v L.length (s.cs L) h v2 M.length (s.cs M) hsl (Sh.cs_one M) (by unfold maxLen; omega) (by omega) hB
  unfold Free.Loud execOp
  simp only [ho, resolve, invoke, builtin, Sem.run_bind, Sem.run_pure, Result.andThen_ok, List.map_toArray, List.map_cons, List.map_nil, hs, hx, hr]
  refine hR v' w' ?_ h4
  unfold Sh.O
  rw [Sh.cs_append, List.length_append]
  exact h3
theorem Sh.O.keepP {α : Type} {s : Sh α} {w w' : World} {B : Nat} {e : TypeId} {v : Value} {L : List α} {S : Nat → Prop} (h : s.O w B e v L) (hk : Free.KeepsP S w w') (hS : ∀ g, v.ownBlock = some g → ¬ S g) : s.O w' B e v L := by
  refine ⟨h.1, ?_⟩
  rcases h.2 with hn | ⟨g, cap, cur, rfl, hb, hg, rest⟩
  · exact .inl hn
  · exact .inr ⟨g, cap, cur, rfl, hb, (hk.block g (Array.getElem?_eq_some_iff.1 hg).1 (hS g rfl)).trans hg, rest⟩
namespace Ins
variable {α : Type}
/-- What holds behind each operation: 0 makes the empty slice, A appends the first part, M makes the slice of one, A2 appends it, A3 the rest (A3 = A2: there is none). -/
def F (s : Sh α) (A M A2 A3 : Nat) (B0 : Nat) (e : TypeId) (L1 : List α) (x : α) (L2 : List α) (i : Nat) (v : Value) (w : World) : Prop :=
  (i = 0 → ∃ g, v = .slice (some ⟨g, 0, none⟩) 0 0 ∧ B0 ≤ g ∧ w.heap[g]? = some (.cells #[] e (0, 0))) ∧ (i = A → s.O w B0 e v L1) ∧ (i = M → s.R w v [x] ∧ s.O w B0 e v [x]) ∧ (i = A2 → s.O w B0 e v (L1 ++ [x])) ∧ (i = A3 → A3 ≠ A2 → s.O w B0 e v (L1 ++ [x] ++ L2))
def T (A2 A3 B0 : Nat) (k b : Nat) : Prop := (k = A2 ∨ k = A3) ∧ B0 ≤ b
def K (A2 A3 : Nat) (k i : Nat) : Bool := (k == A2 && i != A3 && i != A2) || (k == A3 && i != A3)
theorem keepF {s : Sh α} {A M A2 A3 : Nat} {B0 : Nat} {e : TypeId} {L1 : List α} {x : α} {L2 : List α} {i : Nat} {v : Value} {w w' : World} (h : F s A M A2 A3 B0 e L1 x L2 i v w) (hk : Free.KeepsP (fun _ => False) w w') : F s A M A2 A3 B0 e L1 x L2 i v w' := by
  obtain ⟨h0, h1, h2, h3, h4⟩ := h
  refine ⟨fun hi => ?_, fun hi => (h1 hi).keepP hk (by simp), fun hi => ?_, fun hi => (h3 hi).keepP hk (by simp), fun hi hn => (h4 hi hn).keepP hk (by simp)⟩
  · obtain ⟨g, e1, e2, e3⟩ := h0 hi
    exact ⟨g, e1, e2, (hk.block g (Array.getElem?_eq_some_iff.1 e3).1 (by simp)).trans e3⟩
  · have := (h2 hi).2.keepP hk (by simp)
    exact ⟨this.r, this⟩
theorem stable {s : Sh α} {A M A2 A3 : Nat} {B0 : Nat} {e : TypeId} {L1 : List α} {x : α} {L2 : List α} {ops : Array Oper} {loud : Nat → Bool} (hpre : A3 = A2 ∨ Free.pre ops A2 A3 = true) :
    ∀ i k v w w', loud i = true → i ≠ k → K A2 A3 k i = false → Free.pre ops k i = false → F s A M A2 A3 B0 e L1 x L2 i v w → Free.KeepsP (T A2 A3 B0 k) w w' → F s A M A2 A3 B0 e L1 x L2 i v w' := by
  intro i k v w w' _ hne hK hp hF hk
  by_cases h2 : k = A2
  · subst h2
    by_cases h3 : i = A3
    · subst h3
      rcases hpre with e | e
      · exact absurd e hne
      · rw [hp] at e; cases e
    · exfalso
      unfold K at hK
      simp only [beq_self_eq_true, Bool.true_and, Bool.or_eq_false_iff] at hK
      have h4 := hK.1
      simp [h3, hne] at h4
  · by_cases h3 : k = A3
    · subst h3
      exfalso
      unfold K at hK
      simp [hne] at hK
    · exact keepF hF (hk.mono (fun b hb => by rcases hb.1 with e | e; exact h2 e; exact h3 e))
def Nums (A M A2 A3 : Nat) : Prop := A ≠ 0 ∧ M ≠ 0 ∧ A2 ≠ 0 ∧ A3 ≠ 0 ∧ A ≠ M ∧ A ≠ A2 ∧ A ≠ A3 ∧ M ≠ A2 ∧ M ≠ A3
theorem R_keepP {s : Sh α} {w w' : World} {v : Value} {L : List α} {S : Nat → Prop} (h : s.R w v L) (hk : Free.KeepsP S w w') (hS : ∀ b, S b → w.heap.size ≤ b) : s.R w' v L :=
  Sl.keep h fun b o hb => .inl (hk.cell b o hb (fun h => by have := hS b h; omega))
theorem O_le {s : Sh α} {w : World} {B B' e : Nat} {v : Value} {L : List α} (h : s.O w B e v L) (hb : B' ≤ B) : s.O w B' e v L := by
  refine ⟨h.1, ?_⟩
  rcases h.2 with hn | ⟨g, cap, cur, rfl, h1, rest⟩
  · exact .inl hn
  · exact .inr ⟨g, cap, cur, rfl, Nat.le_trans hb h1, rest⟩
theorem fE {s : Sh α} {A M A2 A3 : Nat} {B0 : Nat} {e : TypeId} {L1 : List α} {x : α} {L2 : List α} (hn : Nums A M A2 A3) {w : World} (hw : B0 ≤ w.heap.size) : F s A M A2 A3 B0 e L1 x L2 0 (.slice (some ⟨w.heap.size, 0, none⟩) 0 0) (w.alloc (.cells #[] e)) ∧ Free.KeepsP (T A2 A3 B0 0) w (w.alloc (.cells #[] e)) := by
  obtain ⟨h1, h2, h3, h4, _⟩ := hn
  exact ⟨⟨fun _ => ⟨_, rfl, hw, heap_alloc_new w _⟩, fun h => absurd h.symm h1, fun h => absurd h.symm h2, fun h => absurd h.symm h3, fun h => absurd h.symm h4⟩, Free.KeepsP.alloc _ _ _⟩
theorem fM {s : Sh α} {A M A2 A3 : Nat} {B0 : Nat} {e : TypeId} {L1 : List α} {x : α} {L2 : List α} (hn : Nums A M A2 A3) {w : World} (hw : B0 ≤ w.heap.size) (xs : Array Value) (hx : xs.toList = s.cf x) : F s A M A2 A3 B0 e L1 x L2 M (.slice (some ⟨w.heap.size, 0, none⟩) 1 1) (w.alloc (.cells xs e)) ∧ Free.KeepsP (T A2 A3 B0 M) w (w.alloc (.cells xs e)) := by
  obtain ⟨h1, h2, h3, h4, h5, h6, h7, h8, h9⟩ := hn
  have hl : xs.size = s.sz := by rw [← Array.length_toList, hx]; exact s.len x
  have hO : s.O (w.alloc (.cells xs e)) B0 e (.slice (some ⟨w.heap.size, 0, none⟩) 1 1) [x] := by
    refine ⟨by simp [Sh.cs, s.len], .inr ⟨w.heap.size, 1, xs, rfl, hw, heap_alloc_new w _, Nat.le_refl _, by simp [maxLen], by simpa using hl, ?_⟩⟩
    rw [List.take_of_length_le (by simp [hl]), hx]
    simp [Sh.cs]
  exact ⟨⟨fun h => absurd h h2, fun h => absurd h.symm h5, fun _ => ⟨hO.r, hO⟩, fun h => absurd h h8, fun h => absurd h h9⟩, Free.KeepsP.alloc _ _ _⟩
section
variable {P : Program} {o : Oper} {a : Act} {w w0 : World} {s : Sh α} {A M A2 A3 : Nat} {e t : TypeId} {L1 : List α} {x : α} {L2 : List α} {z : Value} {by_ : Nat}
theorem lA {S : Nat → Prop} (hn : Nums A M A2 A3) (hinf : (P.info? e).map (fun i => (i.zero, i.size, i.bytes)) = some (some z, s.sz, by_)) (hz : z.cells.size = s.sz) (ht : P.underlying t = some (.slice e)) {v0 v2 : Value} (hk : Free.KeepsP S w0 w) (hS : ∀ b, S b → w0.heap.size ≤ b) (h0 : F s A M A2 A3 w0.heap.size e L1 x L2 0 v0 w) (hR : s.R w0 v2 L1) (p q : Operand)
    (ho : o.op = .call { callee := .builtin .append, args := #[p, q], argTypes := #[t, t] }) (hs : a.eval p = v0) (hx : a.eval q = v2) (hl : L1.length * (by_ + 1) ≤ 140737488355328) : Free.Loud P o a w (fun v w' => F s A M A2 A3 w0.heap.size e L1 x L2 A v w' ∧ Free.KeepsP (T A2 A3 w0.heap.size A) w w') := by
  obtain ⟨h1, h2, h3, h4, h5, h6, h7, h8, h9⟩ := hn
  obtain ⟨g, rfl, hg0, hgc⟩ := h0.1 rfl
  refine Sh.loud_app0 s w0.heap.size hinf hz ht g v2 L1 p q ho hs hx hgc hg0 (R_keepP hR hk hS) hl hk.size ?_
  intro v' w' hO hgr
  exact ⟨⟨fun h => absurd h h1, fun _ => hO, fun h => absurd h h5, fun h => absurd h h6, fun h => absurd h h7⟩, Free.KeepsP.grown hgr (by simp)⟩
theorem lA2 {S : Nat → Prop} (hn : Nums A M A2 A3) (hinf : (P.info? e).map (fun i => (i.zero, i.size, i.bytes)) = some (some z, s.sz, by_)) (hz : z.cells.size = s.sz) (ht : P.underlying t = some (.slice e)) {vA vM : Value} (hk : Free.KeepsP S w0 w) (hA : F s A M A2 A3 w0.heap.size e L1 x L2 A vA w) (hM : F s A M A2 A3 w0.heap.size e L1 x L2 M vM w) (p q : Operand)
    (ho : o.op = .call { callee := .builtin .append, args := #[p, q], argTypes := #[t, t] }) (hs : a.eval p = vA) (hx : a.eval q = vM) (hl : (L1.length + 1) * (by_ + 1) ≤ 140737488355328) : Free.Loud P o a w (fun v w' => F s A M A2 A3 w0.heap.size e L1 x L2 A2 v w' ∧ Free.KeepsP (T A2 A3 w0.heap.size A2) w w') := by
  obtain ⟨h1, h2, h3, h4, h5, h6, h7, h8, h9⟩ := hn
  have hOA := hA.2.1 rfl
  refine Sh.loud_app s w0.heap.size hinf hz ht vA vM L1 [x] p q ho hs hx hOA (hM.2.2.1 rfl).1 hl hk.size ?_
  intro v' w' hO hgr
  exact ⟨⟨fun h => absurd h h3, fun h => absurd h.symm h6, fun h => absurd h.symm h8, fun _ => hO, fun h hne => absurd h.symm hne⟩, Free.KeepsP.grown hgr.grown (fun b hb => ⟨.inl rfl, hOA.ge b hb⟩)⟩
theorem lA3 {S : Nat → Prop} (hn : Nums A M A2 A3) (h23 : A3 ≠ A2) (hinf : (P.info? e).map (fun i => (i.zero, i.size, i.bytes)) = some (some z, s.sz, by_)) (hz : z.cells.size = s.sz) (ht : P.underlying t = some (.slice e)) {vA v2 : Value} (hk : Free.KeepsP S w0 w) (hS : ∀ b, S b → w0.heap.size ≤ b) (hA : F s A M A2 A3 w0.heap.size e L1 x L2 A2 vA w) (hR : s.R w0 v2 L2) (p q : Operand)
    (ho : o.op = .call { callee := .builtin .append, args := #[p, q], argTypes := #[t, t] }) (hs : a.eval p = vA) (hx : a.eval q = v2) (hl : (L1.length + 1 + L2.length) * (by_ + 1) ≤ 140737488355328) : Free.Loud P o a w (fun v w' => F s A M A2 A3 w0.heap.size e L1 x L2 A3 v w' ∧ Free.KeepsP (T A2 A3 w0.heap.size A3) w w') := by
  obtain ⟨h1, h2, h3, h4, h5, h6, h7, h8, h9⟩ := hn
  have hOA := hA.2.2.2.1 rfl
  refine Sh.loud_app s w0.heap.size hinf hz ht vA v2 (L1 ++ [x]) L2 p q ho hs hx hOA (R_keepP hR hk hS) (by rw [List.length_append, List.length_singleton]; exact hl) hk.size ?_
  intro v' w' hO hgr
  exact ⟨⟨fun h => absurd h h4, fun h => absurd h.symm h7, fun h => absurd h.symm h9, fun h => absurd h h23, fun _ _ => hO⟩, Free.KeepsP.grown hgr.grown (fun b hb => ⟨.inr rfl, hOA.ge b hb⟩)⟩
end
theorem low {ops : Array Oper} {A2 A3 B0 i b : Nat} (h : Free.sx ops (T A2 A3 B0) i b) : B0 ≤ b := by obtain ⟨k, _, _, h⟩ := h; exact h.2
theorem lowA {A2 A3 B0 b : Nat} (h : Free.sa (T A2 A3 B0) b) : B0 ≤ b := by obtain ⟨k, h⟩ := h; exact h.2
end Ins
end Go.Proofs.Ytblaaafpglomnaa

namespace Go.Proofs.Ytblaaafpglomnaa
open Go Go.RowKit
attribute [local go_sem] Oper.semAt_some

theorem infoO : (Try.prog.info? tOp).map (fun i => (i.zero, i.size, i.bytes)) = some (some (opV ⟨0, .zero, 0⟩), 14, 96) := by kernel_rfl
set_option maxRecDepth 100000 in
set_option maxHeartbeats 8000000 in
theorem finds_c (w : World) (v0 : Value) (l : List OpT) (c : Int) (m : Nat) (im is : Int) (h : shO.R w v0 l) (hok : ∀ o ∈ l, o.ok) (hc : W64 c) (hm : m < 18446744073709551616) (him : W64 im) (his : W64 is) :
    Calls Try.prog 5 #[v0, .int .i64 c, .int .u64 m, idV im is] w fun e w' => e = .returned (.bool true) ∧ Keeps [] w w' := by
  obtain ⟨a0, c0, rfl, hlc, hcm, _⟩ := h.form
  obtain ⟨M, hM⟩ : ∃ N, l.length = N := ⟨_, rfl⟩
  have hk0 : Keeps [] w (w.alloc (.cells #[.int .i64 im, .int .i64 is] tID)) := (Keeps.refl _ _).alloc _
  have hbI := heap_alloc_new w (.cells #[.int .i64 im, .int .i64 is] tID)
  obtain ⟨I, hI⟩ : ∃ I, w.heap.size = I := ⟨_, rfl⟩
  rw [hI] at hbI
  rw [hM] at hlc h ⊢
  have hMx : M ≤ 9223372036854775807 := by unfold Go.maxLen at hcm; omega
  have haw := fun W => awake_c W
  replace hM := Lib.hid hM
  replace h := Lib.hid h
  replace hok := Lib.hid hok
  replace haw := Lib.hid haw
  replace hk0 := Lib.hid hk0
  replace hbI := Lib.hid hbI
  by_cases hbig : 40 < M
  · have hb2 : (40 : Int) < M := by omega
    go_enter Try.func5, Try.ntmps5
    go_wp2_with fail
    refine (haw.out _).mono ?_
    rintro e w1 ⟨rfl, hk1⟩
    replace hk1 := Lib.hid hk1
    go_wp2
    go_ret
    exact ⟨rfl, hk0.out.trans hk1.out⟩
  have hb2 : decide ((40 : Int) < M) = false := by simp; omega
  have hgS := runS_good hok.out
  have hrc := run_c (w.alloc (.cells #[.int .i64 im, .int .i64 is] tID)) _ l (h.out.keeps hk0.out) hok.out (by rw [hM.out]; omega)
  obtain ⟨S, hSe⟩ : ∃ S, runS l = S := ⟨_, rfl⟩
  rw [hSe] at hgS hrc
  replace hgS := Lib.hid hgS
  replace hrc := Lib.hid hrc
  have hw0 : W64 0 := by decide
  have hall : ∀ o ∈ l ++ [(⟨0, ⟨c, m, im, is, 0, 0, 0, false, false, false, 0, 0⟩, 0⟩ : OpT)], o.ok := by
    intro o ho
    rcases List.mem_append.1 ho with ho | ho
    · exact hok.out o ho
    · simp at ho; subst ho
      exact ⟨by show 0 < 256; omega, ⟨hc, hm, him, his, hw0, hw0, hw0, hw0, hw0⟩, hw0⟩
  replace hall := Lib.hid hall
  clear hSe hc hm him his
  go_enter Try.func5, Try.ntmps5
  go_wp2_with fail
  refine hrc.out.mono ?_
  rintro e w1 ⟨bt, bm, v1, rfl, t1, hR1, k1, hb1, hb2'⟩
  obtain ⟨a1, c1, rfl, _⟩ := hR1.form
  have hkB : Keeps [] w1 (w1.alloc (.cells #[.slice a1 S.length c1] tTb)) := (Keeps.refl _ _).alloc _
  have t2 := Lib.hid (t1.keeps hkB)
  have hR2 := Lib.hid (hR1.keeps hkB)
  have hk2 := Lib.hid (hk0.out.trans (k1.trans hkB))
  have hbI2 := ((k1.trans hkB).block I (lt_of_blk hbI.out) (by simp)).trans hbI.out
  have hbY2 := heap_alloc_new w1 (.cells #[.slice a1 S.length c1] tTb)
  have h2 := Lib.hid (h.out.keeps hk2.out)
  obtain ⟨Y, hY⟩ : ∃ Y, w1.heap.size = Y := ⟨_, rfl⟩
  rw [hY] at hbY2
  obtain ⟨SL, hSL⟩ : ∃ n, S.length = n := ⟨_, rfl⟩
  rw [hSL] at hR2 hbY2 t2 hk2 hbI2 h2
  clear hrc t1 hR1 k1 hkB hbI hk0 hb1 hb2'
  go_wp2
  (try rw [hSL])
  generalize w1.alloc (.cells #[.slice a1 SL c1] tTb) = w2 at *
  obtain ⟨i0, i1, _⟩ := cells2 hbI2
  obtain ⟨NN, hNN⟩ : ∃ n, (l ++ [(⟨0, ⟨c, m, im, is, 0, 0, 0, false, false, false, 0, 0⟩, 0⟩ : OpT)]).length = n := ⟨_, rfl⟩
  have hN1 : NN ≤ 1000 := by rw [← hNN, List.length_append, hM.out]; simp; omega
  replace hNN := Lib.hid hNN
  replace hbI2 := Lib.hid hbI2
  replace hbY2 := Lib.hid hbY2
  replace hSL := Lib.hid hSL
  have hn : Ins.Nums 2 8 9 9 := by unfold Ins.Nums; decide
  refine Free.wp_region_free (by kernel_rfl) (by kernel_rfl) (fun i => i == 0 || i == 2 || i == 8 || i == 9) (Ins.F shO 2 8 9 9 w2.drew.heap.size tOp l (⟨0, ⟨c, m, im, is, 0, 0, 0, false, false, false, 0, 0⟩, 0⟩ : OpT) []) (Ins.T 9 9 w2.drew.heap.size) (Ins.K 9 9) (Ins.stable (.inl rfl)) ?_
  apply Free.walk_loud rfl rfl
  · intro w' hg hf; clear hf
    have hwB := hg.size
    go_simp
    exact Ins.fE hn hwB
  intro v0
  (apply Free.walk_quiet rfl rfl; (intro w' hg hf; clear hf; go_simp <;> exact rfl))
  apply Free.walk_loud rfl rfl
  · intro w' hg hf
    have hF0 : Ins.F shO 2 8 9 9 w2.drew.heap.size tOp l (⟨0, ⟨c, m, im, is, 0, 0, 0, false, false, false, 0, 0⟩, 0⟩ : OpT) [] 0 v0 w' := by simpa using hf 0 (by decide) (by kernel_rfl)
    clear hf
    exact Ins.lA hn infoO rfl Try.underlying22 hg (fun b h => Ins.low h) hF0 (h2.out.keeps (Keeps.refl [] w2).drew) _ _ rfl (by simp [Act.eval, Act.put]) (by simp [Act.eval, Act.put]) (by rw [hM.out]; omega)
  intro v2
  (apply Free.walk_quiet rfl rfl; (intro w' hg hf; clear hf; go_simp <;> exact rfl))
  (apply Free.walk_quiet rfl rfl; (intro w' hg hf; clear hf; go_simp <;> exact rfl))
  apply Free.walk_quiet rfl rfl
  · intro w' hg hf; clear hf
    have r0 := (hg.cell _ _ (lt_of_cell i0) (fun h => Nat.not_le_of_lt (lt_of_cell i0) (Ins.low h))).trans i0
    have r1 := (hg.cell _ _ (lt_of_cell i1) (fun h => Nat.not_le_of_lt (lt_of_cell i1) (Ins.low h))).trans i1
    go_simp <;> exact rfl
  (apply Free.walk_quiet rfl rfl; (intro w' hg hf; clear hf; go_simp <;> exact rfl))
  (apply Free.walk_quiet rfl rfl; (intro w' hg hf; clear hf; go_simp <;> exact rfl))
  apply Free.walk_loud rfl rfl
  · intro w' hg hf; clear hf
    have hwB := hg.size
    go_simp
    exact Ins.fM hn hwB _ rfl
  intro v8
  apply Free.walk_loud rfl rfl
  · intro w' hg hf
    have hFA : Ins.F shO 2 8 9 9 w2.drew.heap.size tOp l (⟨0, ⟨c, m, im, is, 0, 0, 0, false, false, false, 0, 0⟩, 0⟩ : OpT) [] 2 v2 w' := by simpa using hf 2 (by decide) (by kernel_rfl)
    have hFM : Ins.F shO 2 8 9 9 w2.drew.heap.size tOp l (⟨0, ⟨c, m, im, is, 0, 0, 0, false, false, false, 0, 0⟩, 0⟩ : OpT) [] 8 v8 w' := by simpa using hf 8 (by decide) (by kernel_rfl)
    clear hf
    exact Ins.lA2 hn infoO rfl Try.underlying22 hg hFA hFM _ _ rfl (by simp [Act.eval, Act.put]) (by simp [Act.eval, Act.put]) (by rw [hM.out]; omega)
  intro v9
  refine Free.walk_quiet (c := .int .i64 (NN : Nat)) rfl rfl ?_ ?_
  · intro w' hg hf
    have hFB : Ins.F shO 2 8 9 9 w2.drew.heap.size tOp l (⟨0, ⟨c, m, im, is, 0, 0, 0, false, false, false, 0, 0⟩, 0⟩ : OpT) [] 9 v9 w' := by simpa using hf 9 (by decide) (by kernel_rfl)
    clear hf
    have hOB := hFB.2.2.2.1 rfl
    obtain ⟨pa, pc, rfl⟩ := hOB.form
    rw [hNN.out]
    clear hOB hFB
    go_simp <;> exact rfl
  (apply Free.walk_quiet rfl rfl; (intro w' hg hf; clear hf; go_simp <;> exact rfl))
  refine Free.walk_nil ?_
  intro wF hg hf
  have hFin : Ins.F shO 2 8 9 9 w2.drew.heap.size tOp l (⟨0, ⟨c, m, im, is, 0, 0, 0, false, false, false, 0, 0⟩, 0⟩ : OpT) [] 9 v9 wF := by simpa using hf 9 (by decide) (by kernel_rfl)
  have hO := Lib.hid (hFin.2.2.2.1 rfl)
  have hk := Lib.hid (hg.to ((Keeps.refl [] w2).drew) (fun b h => .inr (Ins.lowA h)))
  clear hf hg hFin
  obtain ⟨pa, pc, rfl⟩ := hO.out.form
  clear hn
  have hR3 := hO.out.r
  rw [hNN.out] at hR3 ⊢
  have t3 := Lib.hid (t2.out.keeps hk.out)
  have hR3t := Lib.hid (hR2.out.keeps hk.out)
  have hbY3 := Lib.hid ((hk.out.block Y (lt_of_blk hbY2.out) (by simp)).trans hbY2.out)
  have hk3 := Lib.hid (hk2.out.trans hk.out)
  replace hR3 := Lib.hid hR3
  clear hO t2 hR2 hbY2 hk2 i0 i1 hbI2 h2 hk
  go_frame
  go_wp2
  go_loopw [47] (fun iv wr => ∃ k : Nat, iv = .int .i64 k ∧ k ≤ NN ∧ Hid (Keeps [] wF wr)) (fun iv _ => NN - (intOf iv).toNat)
  case atStart => exact ⟨0, rfl, by omega, Lib.hid (Keeps.refl _ _)⟩
  case round =>
    obtain ⟨k, rfl, hk, hkw⟩ := hrel
    by_cases hlt : k < NN
    · have hk2 : k < (l ++ [(⟨0, ⟨c, m, im, is, 0, 0, 0, false, false, false, 0, 0⟩, 0⟩ : OpT)]).length := by rw [hNN.out]; exact hlt
      have hlt2 : (k : Int) < NN := by omega
      obtain ⟨g, o, d, hv, hel⟩ := (hR3.out.keeps hkw.out).elem hk2
      rw [hNN.out] at hv
      cases hv
      have hxo := hall.out _ (List.getElem_mem hk2)
      obtain ⟨⟨k0, ⟨y0, y1, y2, y3, y4, y5, y6, y7, y8, y9, y10, y11⟩, hh⟩, hx⟩ : ∃ x, (l ++ [(⟨0, ⟨c, m, im, is, 0, 0, 0, false, false, false, 0, 0⟩, 0⟩ : OpT)])[k] = x := ⟨_, rfl⟩
      rw [hx] at hel hxo
      have f0 := hel 0 _ rfl
      have f1 := hel 1 _ rfl
      have f2 := hel 2 _ rfl
      have f3 := hel 3 _ rfl
      have f4 := hel 4 _ rfl
      have f5 := hel 5 _ rfl
      have f6 := hel 6 _ rfl
      have f7 := hel 7 _ rfl
      have f8 := hel 8 _ rfl
      have f9 := hel 9 _ rfl
      have f10 := hel 10 _ rfl
      have f11 := hel 11 _ rfl
      have f12 := hel 12 _ rfl
      have f13 := hel 13 _ rfl
      simp only [shO, Nat.add_zero] at f0 f1 f2 f3 f4 f5 f6 f7 f8 f9 f10 f11 f12 f13
      have hgx := lt_of_cell f0
      have hkA := (Keeps.refl [] wr).alloc (.cells #[.int .u8 k0, .int .i64 y0, .int .u64 y1, .int .i64 y2, .int .i64 y3, .int .i64 y4, .int .i64 y5, .int .i64 y6, .bool y7, .bool y8, .bool y9, .int .i64 y10, .int .i64 y11, .int .i64 hh] tOp)
      have hbO := heap_alloc_new wr (.cells #[.int .u8 k0, .int .i64 y0, .int .u64 y1, .int .i64 y2, .int .i64 y3, .int .i64 y4, .int .i64 y5, .int .i64 y6, .bool y7, .bool y8, .bool y9, .int .i64 y10, .int .i64 y11, .int .i64 hh] tOp)
      obtain ⟨Z, hZ⟩ : ∃ Z, wr.heap.size = Z := ⟨_, rfl⟩
      rw [hZ] at hbO
      have hfd := fun W (hk : Keeps [] wF W) => find_c W bt bm S y0 y1 (t3.out.keeps hk) ⟨hxo.e.cl, hxo.e.n⟩
      have hfR := fun W (hk : Keeps [] wF W) => findR_c W _ S y0 y1 (hR3t.out.keeps hk)
      have hft := fun W (hk : Keeps [] wF W) => forTarget_c W bt bm S y0 y2 y3 (t3.out.keeps hk) hgS.out
      have hfT := fun W (hk : Keeps [] wF W) => forTR_c W _ S y0 y2 y3 (hR3t.out.keeps hk)
      obtain ⟨⟨⟨a0, a1, a2, a3, a4, a5, a6, a7, a8, a9, a10, a11⟩, ah⟩, hA⟩ : ∃ r, (fnd (y0, y1) S).getD (.zero, 0) = r := ⟨_, rfl⟩
      obtain ⟨ab, hAb⟩ : ∃ r, (fnd (y0, y1) S).isSome = r := ⟨_, rfl⟩
      obtain ⟨⟨c0, c1, c2, c3, c4, c5, c6, c7, c8, c9, c10, c11⟩, hC⟩ : ∃ r, (forT y0 y2 y3 S).getD .zero = r := ⟨_, rfl⟩
      obtain ⟨cb, hCb⟩ : ∃ r, (forT y0 y2 y3 S).isSome = r := ⟨_, rfl⟩
      simp only [hA, hAb, hC, hCb, enV, tbV] at hfd hfR hft hfT
      have hnA := fun W => neE W ⟨a0, a1, a2, a3, a4, a5, a6, a7, a8, a9, a10, a11⟩ ⟨a0, a1, a2, a3, a4, a5, a6, a7, a8, a9, a10, a11⟩
      have hnC := fun W => neE W ⟨c0, c1, c2, c3, c4, c5, c6, c7, c8, c9, c10, c11⟩ ⟨c0, c1, c2, c3, c4, c5, c6, c7, c8, c9, c10, c11⟩
      simp only [enV] at hnA hnC
      rw [decide_eq_false (fun h => h rfl)] at hnA hnC
      have hkA1 := hkw.out.trans hkA
      replace hfd := Lib.hid hfd
      replace hfR := Lib.hid hfR
      replace hft := Lib.hid hft
      replace hfT := Lib.hid hfT
      replace hkA1 := Lib.hid hkA1
      replace hbO := Lib.hid hbO
      clear hel hx hA hAb hC hCb hxo hkA
      go_wp2_with fail
      have hbYw := Lib.hid ((hkA1.out.block Y (lt_of_blk hbY3.out) (by simp)).trans hbY3.out)
      refine (hfd.out _ hkA1.out).mono ?_
      rintro e w5 ⟨rfl, k5⟩
      have hkN : Keeps [] w5 (w5.alloc (.cells #[.int .i64 a0, .int .u64 a1, .int .i64 a2, .int .i64 a3, .int .i64 a4, .int .i64 a5, .int .i64 a6, .bool a7, .bool a8, .bool a9, .int .i64 a10, .int .i64 a11] tE)) := (Keeps.refl _ _).alloc _
      have hbN := heap_alloc_new w5 (.cells #[.int .i64 a0, .int .u64 a1, .int .i64 a2, .int .i64 a3, .int .i64 a4, .int .i64 a5, .int .i64 a6, .bool a7, .bool a8, .bool a9, .int .i64 a10, .int .i64 a11] tE)
      obtain ⟨P5, hP5⟩ : ∃ X, w5.heap.size = X := ⟨_, rfl⟩
      rw [hP5] at hbN
      have hbO_ := ((k5.trans hkN).block Z (lt_of_blk hbO.out) (by simp)).trans hbO.out
      clear hbO
      have hbO := Lib.hid hbO_
      clear hbO_
      have hbYw_ := ((k5.trans hkN).block Y (lt_of_blk hbYw.out) (by simp)).trans hbYw.out
      clear hbYw
      have hbYw := Lib.hid hbYw_
      clear hbYw_
      have hkx5 := Lib.hid (hkA1.out.trans (k5.trans hkN))
      replace hbN := Lib.hid hbN
      have hb5 := hbN
      clear hbN hkN k5 hfd
      obtain ⟨o0, o1, o2, o3, o4, o5, o6, o7, o8, o9, o10, o11, o12, o13⟩ := cells14 hbO.out
      have z0 := cells1 hbYw.out
      obtain ⟨p0, p1, p2, p3, p4, p5, p6, p7, p8, p9, p10, p11, _⟩ := cells12 hb5.out
      go_wp2_with fail
      clear o0 o1 o2 o3 o4 o5 o6 o7 o8 o9 o10 o11 o12 o13 z0 p0 p1 p2 p3 p4 p5 p6 p7 p8 p9 p10 p11
      refine (hfR.out _ hkx5.out).mono ?_
      rintro e w6 ⟨rfl, k6⟩
      have hkN : Keeps [] w6 (w6.alloc (.cells #[.int .i64 a0, .int .u64 a1, .int .i64 a2, .int .i64 a3, .int .i64 a4, .int .i64 a5, .int .i64 a6, .bool a7, .bool a8, .bool a9, .int .i64 a10, .int .i64 a11] tE)) := (Keeps.refl _ _).alloc _
      have hbN := heap_alloc_new w6 (.cells #[.int .i64 a0, .int .u64 a1, .int .i64 a2, .int .i64 a3, .int .i64 a4, .int .i64 a5, .int .i64 a6, .bool a7, .bool a8, .bool a9, .int .i64 a10, .int .i64 a11] tE)
      obtain ⟨P6, hP6⟩ : ∃ X, w6.heap.size = X := ⟨_, rfl⟩
      rw [hP6] at hbN
      have hbO_ := ((k6.trans hkN).block Z (lt_of_blk hbO.out) (by simp)).trans hbO.out
      clear hbO
      have hbO := Lib.hid hbO_
      clear hbO_
      have hbYw_ := ((k6.trans hkN).block Y (lt_of_blk hbYw.out) (by simp)).trans hbYw.out
      clear hbYw
      have hbYw := Lib.hid hbYw_
      clear hbYw_
      have hb5_ := ((k6.trans hkN).block P5 (lt_of_blk hb5.out) (by simp)).trans hb5.out
      clear hb5
      have hb5 := Lib.hid hb5_
      clear hb5_
      have hkx6 := Lib.hid (hkx5.out.trans (k6.trans hkN))
      replace hbN := Lib.hid hbN
      have hb6 := hbN
      clear hbN hkN k6 hfR
      obtain ⟨o0, o1, o2, o3, o4, o5, o6, o7, o8, o9, o10, o11, o12, o13⟩ := cells14 hbO.out
      have z0 := cells1 hbYw.out
      obtain ⟨p0, p1, p2, p3, p4, p5, p6, p7, p8, p9, p10, p11, _⟩ := cells12 hb5.out
      obtain ⟨q0, q1, q2, q3, q4, q5, q6, q7, q8, q9, q10, q11, _⟩ := cells12 hb6.out
      go_wp2_with fail
      clear o0 o1 o2 o3 o4 o5 o6 o7 o8 o9 o10 o11 o12 o13 z0 p0 p1 p2 p3 p4 p5 p6 p7 p8 p9 p10 p11 q0 q1 q2 q3 q4 q5 q6 q7 q8 q9 q10 q11
      refine (hft.out _ hkx6.out).mono ?_
      rintro e w7 ⟨rfl, k7⟩
      have hkN : Keeps [] w7 (w7.alloc (.cells #[.int .i64 c0, .int .u64 c1, .int .i64 c2, .int .i64 c3, .int .i64 c4, .int .i64 c5, .int .i64 c6, .bool c7, .bool c8, .bool c9, .int .i64 c10, .int .i64 c11] tE)) := (Keeps.refl _ _).alloc _
      have hbN := heap_alloc_new w7 (.cells #[.int .i64 c0, .int .u64 c1, .int .i64 c2, .int .i64 c3, .int .i64 c4, .int .i64 c5, .int .i64 c6, .bool c7, .bool c8, .bool c9, .int .i64 c10, .int .i64 c11] tE)
      obtain ⟨P7, hP7⟩ : ∃ X, w7.heap.size = X := ⟨_, rfl⟩
      rw [hP7] at hbN
      have hbO_ := ((k7.trans hkN).block Z (lt_of_blk hbO.out) (by simp)).trans hbO.out
      clear hbO
      have hbO := Lib.hid hbO_
      clear hbO_
      have hbYw_ := ((k7.trans hkN).block Y (lt_of_blk hbYw.out) (by simp)).trans hbYw.out
      clear hbYw
      have hbYw := Lib.hid hbYw_
      clear hbYw_
      have hb5_ := ((k7.trans hkN).block P5 (lt_of_blk hb5.out) (by simp)).trans hb5.out
      clear hb5
      have hb5 := Lib.hid hb5_
      clear hb5_
      have hb6_ := ((k7.trans hkN).block P6 (lt_of_blk hb6.out) (by simp)).trans hb6.out
      clear hb6
      have hb6 := Lib.hid hb6_
      clear hb6_
      have hkx7 := Lib.hid (hkx6.out.trans (k7.trans hkN))
      replace hbN := Lib.hid hbN
      have hb7 := hbN
      clear hbN hkN k7 hft
      obtain ⟨o0, o1, o2, o3, o4, o5, o6, o7, o8, o9, o10, o11, o12, o13⟩ := cells14 hbO.out
      have z0 := cells1 hbYw.out
      obtain ⟨p0, p1, p2, p3, p4, p5, p6, p7, p8, p9, p10, p11, _⟩ := cells12 hb5.out
      obtain ⟨q0, q1, q2, q3, q4, q5, q6, q7, q8, q9, q10, q11, _⟩ := cells12 hb6.out
      obtain ⟨r0, r1, r2, r3, r4, r5, r6, r7, r8, r9, r10, r11, _⟩ := cells12 hb7.out
      go_wp2_with fail
      clear o0 o1 o2 o3 o4 o5 o6 o7 o8 o9 o10 o11 o12 o13 z0 p0 p1 p2 p3 p4 p5 p6 p7 p8 p9 p10 p11 q0 q1 q2 q3 q4 q5 q6 q7 q8 q9 q10 q11 r0 r1 r2 r3 r4 r5 r6 r7 r8 r9 r10 r11
      refine (hfT.out _ hkx7.out).mono ?_
      rintro e w8 ⟨rfl, k8⟩
      have hkN : Keeps [] w8 (w8.alloc (.cells #[.int .i64 c0, .int .u64 c1, .int .i64 c2, .int .i64 c3, .int .i64 c4, .int .i64 c5, .int .i64 c6, .bool c7, .bool c8, .bool c9, .int .i64 c10, .int .i64 c11] tE)) := (Keeps.refl _ _).alloc _
      have hbN := heap_alloc_new w8 (.cells #[.int .i64 c0, .int .u64 c1, .int .i64 c2, .int .i64 c3, .int .i64 c4, .int .i64 c5, .int .i64 c6, .bool c7, .bool c8, .bool c9, .int .i64 c10, .int .i64 c11] tE)
      obtain ⟨P8, hP8⟩ : ∃ X, w8.heap.size = X := ⟨_, rfl⟩
      rw [hP8] at hbN
      have hbO_ := ((k8.trans hkN).block Z (lt_of_blk hbO.out) (by simp)).trans hbO.out
      clear hbO
      have hbO := Lib.hid hbO_
      clear hbO_
      have hbYw_ := ((k8.trans hkN).block Y (lt_of_blk hbYw.out) (by simp)).trans hbYw.out
      clear hbYw
      have hbYw := Lib.hid hbYw_
      clear hbYw_
      have hb5_ := ((k8.trans hkN).block P5 (lt_of_blk hb5.out) (by simp)).trans hb5.out
      clear hb5
      have hb5 := Lib.hid hb5_
      clear hb5_
      have hb6_ := ((k8.trans hkN).block P6 (lt_of_blk hb6.out) (by simp)).trans hb6.out
      clear hb6
      have hb6 := Lib.hid hb6_
      clear hb6_
      have hb7_ := ((k8.trans hkN).block P7 (lt_of_blk hb7.out) (by simp)).trans hb7.out
      clear hb7
      have hb7 := Lib.hid hb7_
      clear hb7_
      have hkx8 := Lib.hid (hkx7.out.trans (k8.trans hkN))
      replace hbN := Lib.hid hbN
      have hb8 := hbN
      clear hbN hkN k8 hfT
      obtain ⟨o0, o1, o2, o3, o4, o5, o6, o7, o8, o9, o10, o11, o12, o13⟩ := cells14 hbO.out
      have z0 := cells1 hbYw.out
      obtain ⟨p0, p1, p2, p3, p4, p5, p6, p7, p8, p9, p10, p11, _⟩ := cells12 hb5.out
      obtain ⟨q0, q1, q2, q3, q4, q5, q6, q7, q8, q9, q10, q11, _⟩ := cells12 hb6.out
      obtain ⟨r0, r1, r2, r3, r4, r5, r6, r7, r8, r9, r10, r11, _⟩ := cells12 hb7.out
      obtain ⟨s0, s1, s2, s3, s4, s5, s6, s7, s8, s9, s10, s11, _⟩ := cells12 hb8.out
      go_wp2
      go_roundw
      case rel => exact ⟨k + 1, rfl, by omega, Lib.hid hkx8.out⟩
      case measure => simp [intOf]; omega
    · have hkN : k = NN := by omega
      have hlt2 : decide ((k : Int) < NN) = false := by simp; omega
      replace hkN := Lib.hid hkN
      go_wp2_with fail
      refine (haw.out _).mono ?_
      rintro e w7 ⟨rfl, hk7⟩
      replace hk7 := Lib.hid hk7
      go_wp2
      go_ret
      exact ⟨rfl, (hk3.out.trans hkw.out).trans hk7.out⟩
end Go.Proofs.Ytblaaafpglomnaa

namespace Go.Proofs.Ytblaaafpglomnaa
open Go Go.RowKit
attribute [local go_sem] Oper.semAt_some

theorem infoOp : (Try.prog.info? tOp).map (fun i => (i.zero, i.size, i.bytes)) = some (some (opV ⟨0, .zero, 0⟩), 14, 96) := by kernel_rfl
/-- The facts of the last line's operations: lists, bytes, truth values, strings. -/
def OrF (L : List En) (B : List UInt8) (i : Nat) (v : Value) (w : World) : Prop := (i = 1 ∨ i = 3 → shE.R w v L) ∧ (i = 7 ∨ i = 10 → SlB w v B) ∧ (i = 4 ∨ i = 15 → v = .bool true) ∧ (i = 8 ∨ i = 11 → v = .string (str B))
theorem Free.KeepsP.k0 {w w' : World} (hk : Free.KeepsP (fun _ => False) w w') : Keeps [] w w' := hk.to (Keeps.refl [] w) (fun _ h => h.elim)
theorem OrF.keep {L : List En} {B : List UInt8} {i : Nat} {v : Value} {w w' : World} (h : OrF L B i v w) (hk : Free.KeepsP (fun _ => False) w w') : OrF L B i v w' :=
  ⟨fun e => (h.1 e).keeps hk.k0, fun e => (h.2.1 e).keeps hk.k0, h.2.2.1, h.2.2.2⟩
theorem OrF.l {L : List En} {B : List UInt8} {i : Nat} {v : Value} {w : World} (hi : i = 1 ∨ i = 3) (h : shE.R w v L) : OrF L B i v w := ⟨fun _ => h, fun e => by omega, fun e => by omega, fun e => by omega⟩
theorem OrF.s {L : List En} {B : List UInt8} {i : Nat} {v : Value} {w : World} (hi : i = 7 ∨ i = 10) (h : SlB w v B) : OrF L B i v w := ⟨fun e => by omega, fun _ => h, fun e => by omega, fun e => by omega⟩
theorem OrF.b {L : List En} {B : List UInt8} {i : Nat} {w : World} (hi : i = 4 ∨ i = 15) : OrF L B i (.bool true) w := ⟨fun e => by omega, fun e => by omega, fun _ => rfl, fun e => by omega⟩
theorem OrF.c {L : List En} {B : List UInt8} {i : Nat} {w : World} (hi : i = 8 ∨ i = 11) : OrF L B i (.string (str B)) w := ⟨fun e => by omega, fun e => by omega, fun e => by omega, fun _ => rfl⟩
set_option maxRecDepth 100000 in
set_option maxHeartbeats 16000000 in
theorem order_c (w : World) (v0 : Value) (l : List OpT) (p : Nat) (h : shO.R w v0 l) (hok : ∀ o ∈ l, o.ok) (hp : p < 256) :
    Calls Try.prog 4 #[v0, .int .u8 p] w fun e w' => e = .returned (.bool true) ∧ Keeps [] w w' := by
  obtain ⟨a0, c0, rfl, hlc, hcm, _⟩ := h.form
  obtain ⟨M, hM⟩ : ∃ N, l.length = N := ⟨_, rfl⟩
  rw [hM] at hlc h ⊢
  have hMx : M ≤ 9223372036854775807 := by unfold Go.maxLen at hcm; omega
  have haw := fun W => awake_c W
  replace hM := Lib.hid hM
  replace h := Lib.hid h
  replace hok := Lib.hid hok
  replace haw := Lib.hid haw
  by_cases hbig : 30 < M
  · have hb2 : (30 : Int) < M := by omega
    go_enter Try.func4, Try.ntmps4
    go_wp2_with fail
    refine (haw.out _).mono ?_
    rintro e w1 ⟨rfl, hk1⟩
    replace hk1 := Lib.hid hk1
    go_wp2
    go_ret
    exact ⟨rfl, hk1.out⟩
  have hb2 : decide ((30 : Int) < M) = false := by simp; omega
  have hwp : IntKind.i64.wrap (p : Int) = p := IntWalk.i64_in _ (by omega)
  replace hwp := Lib.hid hwp
  go_enter Try.func4, Try.ntmps4
  go_wp2_with fail
  refine (new_c _).mono ?_
  rintro e w1 ⟨bta, bma, rfl, ta1, k1, hta, hma⟩
  replace ta1 := Lib.hid ta1
  replace k1 := Lib.hid k1
  go_wp2_with fail
  refine (new_c _).mono ?_
  rintro e w2 ⟨btb, bmb, rfl, tb2, k2, htb, hmb⟩
  have ta2 := ta1.out.keeps k2
  have la1 := ta1.out.lt
  have lb2 := tb2.lt
  have la2 := ta2.lt
  have hk2 := Lib.hid (k1.out.trans k2)
  obtain ⟨B, hB⟩ : ∃ B, w2.heap.size = B := ⟨_, rfl⟩
  rw [hB] at lb2 la2
  replace ta2 := Lib.hid ta2
  replace tb2 := Lib.hid tb2
  clear ta1 k1 k2
  go_wp2
  go_loopw [26, 7] (fun iv av wr => ∃ k : Nat, iv = .int .i64 k ∧ k ≤ M ∧ shO.O wr B tOp av (runA (l.take k)).2 ∧ TM wr bta bma (runA (l.take k)).1 ∧ TM wr btb bmb [] ∧ Hid (Keeps [] w wr) ∧ B ≤ wr.heap.size) (fun iv _ _ => M - (intOf iv).toNat)
  case atStart => exact ⟨0, rfl, by omega, Sh.O.nil shO _ _ _, ta2.out, tb2.out, hk2, by omega⟩
  case round =>
    obtain ⟨k, rfl, hk, hO, ta, tb, hkw, hBw⟩ := hrel
    obtain ⟨aa, ca, rfl⟩ := hO.form
    by_cases hlt : k < M
    · have hk2' : k < l.length := by rw [hM.out]; exact hlt
      have hlt2 : (k : Int) < M := by omega
      obtain ⟨g, o, d, hv, hel⟩ := (h.out.keeps hkw.out).elem hk2'
      rw [hM.out] at hv
      cases hv
      have hxo := hok.out _ (List.getElem_mem hk2')
      have hA := runA_added (l := l.take k) (fun x hx => hok.out x (List.mem_of_mem_take hx))
      have hAl := runA_len (l.take k)
      rw [List.length_take] at hAl
      have hst : runA (l.take (k + 1)) = stA (runA (l.take k)) l[k] := by rw [List.take_add_one, List.getElem?_eq_getElem hk2']; exact runA_snoc _ _
      obtain ⟨⟨k0, ⟨y0, y1, y2, y3, y4, y5, y6, y7, y8, y9, y10, y11⟩, hh⟩, hx⟩ : ∃ x, l[k] = x := ⟨_, rfl⟩
      rw [hx] at hel hxo hst
      have f0 := hel 0 _ rfl
      have f1 := hel 1 _ rfl
      have f2 := hel 2 _ rfl
      have f3 := hel 3 _ rfl
      have f4 := hel 4 _ rfl
      have f5 := hel 5 _ rfl
      have f6 := hel 6 _ rfl
      have f7 := hel 7 _ rfl
      have f8 := hel 8 _ rfl
      have f9 := hel 9 _ rfl
      have f10 := hel 10 _ rfl
      have f11 := hel 11 _ rfl
      have f12 := hel 12 _ rfl
      have f13 := hel 13 _ rfl
      simp only [shO, Nat.add_zero] at f0 f1 f2 f3 f4 f5 f6 f7 f8 f9 f10 f11 f12 f13
      have hgx := lt_of_cell f0
      obtain ⟨S, hS⟩ : ∃ S, (runA (l.take k)).1 = S := ⟨_, rfl⟩
      obtain ⟨A, hAA⟩ : ∃ A, (runA (l.take k)).2 = A := ⟨_, rfl⟩
      have hste : runA (l.take (k + 1)) = ((addS ⟨y0, y1, y2, y3, y4, y5, y6, y7, y8, y9, y10, y11⟩ hh S).2, if (addS ⟨y0, y1, y2, y3, y4, y5, y6, y7, y8, y9, y10, y11⟩ hh S).1 = 0 then A ++ [⟨k0, ⟨y0, y1, y2, y3, y4, y5, y6, y7, y8, y9, y10, y11⟩, hh⟩] else A) := by rw [hst]; unfold stA; rw [hS, hAA]
      rw [hS, hAA] at hA
      rw [hAA] at hAl hO
      rw [hS] at ta
      have hAM : A.length ≤ 30 := by have := hM.out; omega
      have hkA : Keeps [] wr (wr.alloc (.cells #[.int .u8 k0, .int .i64 y0, .int .u64 y1, .int .i64 y2, .int .i64 y3, .int .i64 y4, .int .i64 y5, .int .i64 y6, .bool y7, .bool y8, .bool y9, .int .i64 y10, .int .i64 y11, .int .i64 hh] tOp)) := (Keeps.refl [] wr).alloc _
      have hbO := heap_alloc_new wr (.cells #[.int .u8 k0, .int .i64 y0, .int .u64 y1, .int .i64 y2, .int .i64 y3, .int .i64 y4, .int .i64 y5, .int .i64 y6, .bool y7, .bool y8, .bool y9, .int .i64 y10, .int .i64 y11, .int .i64 hh] tOp)
      have hadd := add_c (wr.alloc (.cells #[.int .u8 k0, .int .i64 y0, .int .u64 y1, .int .i64 y2, .int .i64 y3, .int .i64 y4, .int .i64 y5, .int .i64 y6, .bool y7, .bool y8, .bool y9, .int .i64 y10, .int .i64 y11, .int .i64 hh] tOp)) bta bma S ⟨y0, y1, y2, y3, y4, y5, y6, y7, y8, y9, y10, y11⟩ hh (ta.keeps hkA) hxo.e hxo.h hA.g.len
      have tb1 := tb.keeps hkA
      have hO1 := hO.keeps hkA
      have hk1 := hkw.out.trans hkA
      have lt1 := ta.lt
      have hBa : B ≤ (wr.alloc (.cells #[.int .u8 k0, .int .i64 y0, .int .u64 y1, .int .i64 y2, .int .i64 y3, .int .i64 y4, .int .i64 y5, .int .i64 y6, .bool y7, .bool y8, .bool y9, .int .i64 y10, .int .i64 y11, .int .i64 hh] tOp)).heap.size := by simp; omega
      obtain ⟨Z, hZ⟩ : ∃ Z, wr.heap.size = Z := ⟨_, rfl⟩
      rw [hZ] at hbO lt1
      obtain ⟨NA, hNA⟩ : ∃ n, A.length = n := ⟨_, rfl⟩
      rw [hAA, hNA]
      rw [hNA] at hO1 hAM
      obtain ⟨q, hq⟩ : ∃ q, addS ⟨y0, y1, y2, y3, y4, y5, y6, y7, y8, y9, y10, y11⟩ hh S = q := ⟨_, rfl⟩
      rw [hq] at hadd hste
      simp only [enV] at hadd
      have hncm := ta.mp.noCells ktK
      replace hadd := Lib.hid hadd
      replace hbO := Lib.hid hbO
      replace tb1 := Lib.hid tb1
      replace hO1 := Lib.hid hO1
      replace hk1 := Lib.hid hk1
      replace hNA := Lib.hid hNA
      replace hste := Lib.hid hste
      clear hel hx hst hS hAA hq hO ta tb hkA hA hxo hkw hncm
      obtain ⟨q1, q2⟩ := q
      go_wp2_with fail
      refine hadd.out.mono ?_
      rintro e w3 ⟨rfl, ta3, k3⟩
      have hZb : Z ≠ bma := by omega
      have hbO3 := (k3.block Z (lt_of_blk hbO.out) (by simpa using hZb)).trans hbO.out
      obtain ⟨o0, o1, o2, o3, o4, o5, o6, o7, o8, o9, o10, o11, o12, o13⟩ := cells14 hbO3
      have tb3 := tb1.out.kept k3 (by simp; omega) (by simp; omega)
      have hO3 := hO1.out.keepS k3 (fun b hb e => by simp at hb; subst hb; have := hO1.out.ge _ e; omega)
      have hk3 := hk1.out.fresh k3 (fun b hb => .inr (by simp at hb; omega))
      have hB3 : B ≤ w3.heap.size := Nat.le_trans hBa k3.size
      replace hbO3 := Lib.hid hbO3
      replace hO3 := Lib.hid hO3
      replace hk3 := Lib.hid hk3
      replace ta3 := Lib.hid ta3
      replace tb3 := Lib.hid tb3
      clear hadd hO1 k3 tb1 hk1 hBa f0 f1 f2 f3 f4 f5 f6 f7 f8 f9 f10 f11 f12 f13
      by_cases hq0 : q1 = 0
      · subst hq0
        have hmade := Sh.O.one shO w3 (⟨k0, ⟨y0, y1, y2, y3, y4, y5, y6, y7, y8, y9, y10, y11⟩, hh⟩ : OpT) #[.int .u8 k0, .int .i64 y0, .int .u64 y1, .int .i64 y2, .int .i64 y3, .int .i64 y4, .int .i64 y5, .int .i64 y6, .bool y7, .bool y8, .bool y9, .int .i64 y10, .int .i64 y11, .int .i64 hh] tOp 0 rfl (by omega)
        have hkC : Keeps [] w3 (w3.alloc (.cells #[.int .u8 k0, .int .i64 y0, .int .u64 y1, .int .i64 y2, .int .i64 y3, .int .i64 y4, .int .i64 y5, .int .i64 y6, .bool y7, .bool y8, .bool y9, .int .i64 y10, .int .i64 y11, .int .i64 hh] tOp)) := (Keeps.refl _ _).alloc _
        have hOC := hO3.out.keeps hkC
        have taC := ta3.out.keeps hkC
        have tbC := tb3.out.keeps hkC
        have hkwC := hk3.out.trans hkC
        have hBC : B ≤ (w3.alloc (.cells #[.int .u8 k0, .int .i64 y0, .int .u64 y1, .int .i64 y2, .int .i64 y3, .int .i64 y4, .int .i64 y5, .int .i64 y6, .bool y7, .bool y8, .bool y9, .int .i64 y10, .int .i64 y11, .int .i64 hh] tOp)).heap.size := by simp; omega
        simp only [if_true] at hste
        replace hmade := Lib.hid hmade
        replace hOC := Lib.hid hOC
        replace taC := Lib.hid taC
        replace tbC := Lib.hid tbC
        replace hkwC := Lib.hid hkwC
        clear hkC hO3 ta3 tb3 hk3
        go_wp2_with (at_builtin; go_loud (refine Sh.wpl_app shO B infoOp rfl Try.underlying22 (.slice aa NA ca) (.slice (some ⟨w3.heap.size, 0, none⟩) 1 1) _ [(⟨k0, ⟨y0, y1, y2, y3, y4, y5, y6, y7, y8, y9, y10, y11⟩, hh⟩ : OpT)] rfl _ _ rfl rfl rfl hOC.out hmade.out.r (by rw [hNA.out]; simp; omega) hBC ?_; intro v5 w5 hO5 hG5; have hk5 := Grw.keeps hkwC.out hG5 (fun b hb => by have := hOC.out.ge b hb; omega); have ta5 := taC.out.kept hG5.keepsO (fun hm => by have := hOC.out.ge bta (by simpa using hm); omega) (fun hm => by have := hOC.out.ge bma (by simpa using hm); omega); have tb5 := tbC.out.kept hG5.keepsO (fun hm => by have := hOC.out.ge btb (by simpa using hm); omega) (fun hm => by have := hOC.out.ge bmb (by simpa using hm); omega); have hB5 := Nat.le_trans hBC hG5.keepsO.size; replace hO5 := Lib.hid hO5; replace hk5 := Lib.hid hk5; replace ta5 := Lib.hid ta5; replace tb5 := Lib.hid tb5; clear hG5))
        go_roundw
        case rel => exact ⟨k + 1, rfl, by omega, by rw [hste.out]; exact hO5.out, by rw [hste.out]; exact ta5.out, tb5.out, hk5, hB5⟩
        case measure => simp [intOf]; omega
      · have hqb : (q1 == 0) = false := by simpa using hq0
        rw [if_neg hq0] at hste
        go_wp2
        go_roundw
        case rel => exact ⟨k + 1, rfl, by omega, by rw [hste.out, ← hNA.out]; rw [← hNA.out] at hO3; exact hO3.out, by rw [hste.out]; exact ta3.out, tb3.out, hk3, hB3⟩
        case measure => simp [intOf]; omega
    · have hkM : k = M := by omega
      have hall : l.take k = l := List.take_of_length_le (by rw [hM.out]; omega)
      have hlt2 : decide ((k : Int) < M) = false := by simp; omega
      rw [hall] at hO ta ⊢
      have hA := runA_added (l := l) hok.out
      have hAl := runA_len l
      rw [hM.out] at hAl
      have hAok : ∀ x ∈ (runA l).2, x.ok := fun x hx => hok.out x (runA_mem hx)
      obtain ⟨S, hS⟩ : ∃ S, (runA l).1 = S := ⟨_, rfl⟩
      obtain ⟨A, hAA⟩ : ∃ A, (runA l).2 = A := ⟨_, rfl⟩
      rw [hS, hAA] at hA
      rw [hAA] at hAl hO hAok ⊢
      rw [hS] at ta
      obtain ⟨hG, hstp, hfin⟩ := again hA (rot_perm p A) hAok (by omega)
      have hrl := rot_len p A
      have hrg := fun i hi => rot_get p A i hi
      obtain ⟨R, hR⟩ : ∃ R, Hid (rot p A = R) := ⟨_, Lib.hid rfl⟩
      simp only [hR.out] at hG hstp hfin hrl hrg
      have hRok : ∀ x ∈ R, x.ok := fun x hx => hAok x ((by rw [← hR.out] at hx; exact (rot_perm p A).mem_iff.1 hx))
      obtain ⟨NA, hNA⟩ : ∃ n, A.length = n := ⟨_, rfl⟩
      rw [hNA] at hO hAl hrl ⊢
      simp only [hNA] at hrg
      have hgS := hA.g
      replace hG := Lib.hid hG
      replace hstp := Lib.hid hstp
      replace hfin := Lib.hid hfin
      replace hrg := Lib.hid hrg
      replace hrl := Lib.hid hrl
      replace hRok := Lib.hid hRok
      replace hgS := Lib.hid hgS
      replace hO := Lib.hid hO
      replace ta := Lib.hid ta
      replace tb := Lib.hid tb
      replace hNA := Lib.hid hNA
      clear hall hA hAok hS hAA
      replace hkM := Lib.hid hkM
      go_wp2
      go_loopw [44] (fun iv wx => ∃ k : Nat, iv = .int .i64 k ∧ k ≤ NA ∧ Hid (TM wx btb bmb (insA (R.take k))) ∧ Hid (Keeps [bmb] wr wx)) (fun iv _ => NA - (intOf iv).toNat)
      case atStart => exact ⟨0, rfl, by omega, Lib.hid tb.out, Lib.hid (Keeps.refl _ _)⟩
      case round =>
        obtain ⟨k2, rfl, hk2', tk, hkx⟩ := hrel
        by_cases hlt3 : k2 < NA
        · have hlt4 : (k2 : Int) < NA := by omega
          obtain ⟨q, hq⟩ : ∃ q, (k2 + p) % NA = q := ⟨_, rfl⟩
          have hqN : q < NA := by rw [← hq]; exact Nat.mod_lt _ (by omega)
          have hqN2 : (q : Int) < NA := by omega
          have hmd : Int.tmod ((k2 : Int) + (p : Int)) (NA : Int) = ((q : Nat) : Int) := by rw [← hq]; exact (Int.ofNat_tmod (k2 + p) NA).symm
          have hws : IntKind.i64.wrap ((k2 : Int) + (p : Int)) = (k2 : Int) + (p : Int) := IntWalk.i64_in _ (by omega)
          have hNz : ((NA : Int) == 0) = false := by simp; omega
          have hwpo := hwp.out
          have hOx := (hO.out.keepS hkx.out (fun b hb e => by simp at hb; subst hb; have := hO.out.ge _ e; omega)).r
          obtain ⟨g, o, d, hv, hel⟩ := hOx.elem (k := q) (by rw [hNA.out]; exact hqN)
          rw [hNA.out] at hv
          cases hv
          have hk2R : k2 < R.length := by rw [hrl.out]; exact hlt3
          have hst2 := hstp.out k2 hk2R
          have hxo := hRok.out _ (List.getElem_mem hk2R)
          have hgt := hG.out k2
          have hre := hrg.out k2 hlt3
          have hre2 : A[q]'(by rw [hNA.out]; exact hqN) = R[k2] := by
            rw [hre]; congr 1; exact hq.symm
          rw [hre2] at hel
          obtain ⟨⟨k0, ⟨y0, y1, y2, y3, y4, y5, y6, y7, y8, y9, y10, y11⟩, hh⟩, hx⟩ : ∃ x, R[k2] = x := ⟨_, rfl⟩
          rw [hx] at hel hst2 hxo
          simp only at hst2
          have f0 := hel 0 _ rfl
          have f1 := hel 1 _ rfl
          have f2 := hel 2 _ rfl
          have f3 := hel 3 _ rfl
          have f4 := hel 4 _ rfl
          have f5 := hel 5 _ rfl
          have f6 := hel 6 _ rfl
          have f7 := hel 7 _ rfl
          have f8 := hel 8 _ rfl
          have f9 := hel 9 _ rfl
          have f10 := hel 10 _ rfl
          have f11 := hel 11 _ rfl
          have f12 := hel 12 _ rfl
          have f13 := hel 13 _ rfl
          simp only [shO, Nat.add_zero] at f0 f1 f2 f3 f4 f5 f6 f7 f8 f9 f10 f11 f12 f13
          have hgx := lt_of_cell f0
          have hkA : Keeps [] wr (wr.alloc (.cells #[.int .u8 k0, .int .i64 y0, .int .u64 y1, .int .i64 y2, .int .i64 y3, .int .i64 y4, .int .i64 y5, .int .i64 y6, .bool y7, .bool y8, .bool y9, .int .i64 y10, .int .i64 y11, .int .i64 hh] tOp)) := (Keeps.refl [] wr).alloc _
          have hbO := heap_alloc_new wr (.cells #[.int .u8 k0, .int .i64 y0, .int .u64 y1, .int .i64 y2, .int .i64 y3, .int .i64 y4, .int .i64 y5, .int .i64 y6, .bool y7, .bool y8, .bool y9, .int .i64 y10, .int .i64 y11, .int .i64 hh] tOp)
          have hadd := add_c (wr.alloc (.cells #[.int .u8 k0, .int .i64 y0, .int .u64 y1, .int .i64 y2, .int .i64 y3, .int .i64 y4, .int .i64 y5, .int .i64 y6, .bool y7, .bool y8, .bool y9, .int .i64 y10, .int .i64 y11, .int .i64 hh] tOp)) btb bmb (insA (R.take k2)) ⟨y0, y1, y2, y3, y4, y5, y6, y7, y8, y9, y10, y11⟩ hh (tk.out.keeps hkA) hxo.e hxo.h hgt.len
          rw [hst2] at hadd
          simp only [enV] at hadd
          have hkx1 := Lib.hid (hkx.out.trans hkA.of_nil)
          replace hadd := Lib.hid hadd
          replace hbO := Lib.hid hbO
          replace hq := Lib.hid hq
          clear hel hx hst2 hxo hgt hre hre2 hkA hkx tk hk2R hOx
          go_wp2_with fail
          refine hadd.out.mono ?_
          rintro e w3 ⟨rfl, tk3, k3⟩
          have hkx3 := Lib.hid (hkx1.out.trans k3)
          replace tk3 := Lib.hid tk3
          clear hadd k3 f0 f1 f2 f3 f4 f5 f6 f7 f8 f9 f10 f11 f12 f13
          go_wp2
          go_roundw
          case rel => exact ⟨k2 + 1, rfl, by omega, tk3, hkx3⟩
          case measure => simp [intOf]; omega
        · have hkN : k2 = NA := by omega
          have hall : R.take k2 = R := List.take_of_length_le (by rw [hrl.out]; omega)
          have hlt4 : decide ((k2 : Int) < NA) = false := by simp; omega
          rw [hall, hfin.out] at tk
          have tax := Lib.hid (ta.out.kept hkx.out (by simp; omega) (by simp; omega))
          have hla := Lib.hid (fun W t => list_c W bta bma S t hgS.out)
          have hlb := Lib.hid (fun W t => list_c W btb bmb S t hgS.out)
          have hea := Lib.hid (fun W t => encode_c W bta bma S t hgS.out)
          have heb := Lib.hid (fun W t => encode_c W btb bmb S t hgS.out)
          have hkwx := Lib.hid (hkw.out.fresh hkx.out (fun b hb => .inr (by simp at hb; omega)))
          obtain ⟨LE, hLE⟩ : ∃ L, lst S = L := ⟨_, rfl⟩
          obtain ⟨BE, hBE⟩ : ∃ L, encS S = L := ⟨_, rfl⟩
          simp only [hLE] at hla hlb
          simp only [hBE] at hea heb
          clear ta
          have ta := tax
          have tb := tk
          replace hkN := Lib.hid hkN
          clear hall hfin tax tk hLE hBE
          go_wp2
          refine Free.wp_region_free (by kernel_rfl) (by kernel_rfl) (fun i => i == 1 || i == 3 || i == 4 || i == 7 || i == 8 || i == 10 || i == 11 || i == 15) (OrF LE BE) (fun _ _ => False) (fun _ _ => false) (fun i k v w w2 _ _ _ _ hF hk => hF.keep hk) ?_
          (apply Free.walk_quiet rfl rfl; (intro w' hg hf; clear hf; go_simp <;> exact rfl))
          apply Free.walk_loud rfl rfl
          · intro w' hg hf
            have hkw : Keeps [] wr w' := hg.to ((Keeps.refl [] wr).drew) (fun b h => by obtain ⟨_, _, _, h⟩ := h; exact h.elim)
            clear hf hg
            go_simp
            refine (hla.out w' (ta.out.keeps hkw)).mono ?_
            rintro e w2 ⟨v, rfl, hO, k2⟩
            exact ⟨_, rfl, OrF.l (.inl rfl) hO.r, Free.KeepsP.of k2 (by simp)⟩
          intro v1
          (apply Free.walk_quiet rfl rfl; (intro w' hg hf; clear hf; go_simp <;> exact rfl))
          apply Free.walk_loud rfl rfl
          · intro w' hg hf
            have hkw : Keeps [] wr w' := hg.to ((Keeps.refl [] wr).drew) (fun b h => by obtain ⟨_, _, _, h⟩ := h; exact h.elim)
            clear hf hg
            go_simp
            refine (hlb.out w' (tb.out.keeps hkw)).mono ?_
            rintro e w2 ⟨v, rfl, hO, k2⟩
            exact ⟨_, rfl, OrF.l (.inr rfl) hO.r, Free.KeepsP.of k2 (by simp)⟩
          intro v3
          apply Free.walk_loud rfl rfl
          · intro w' hg hf
            have hkw : Keeps [] wr w' := hg.to ((Keeps.refl [] wr).drew) (fun b h => by obtain ⟨_, _, _, h⟩ := h; exact h.elim)
            have h1 : OrF LE BE 1 v1 w' := by simpa using hf 1 (by decide) (by kernel_rfl)
            have h3 : OrF LE BE 3 v3 w' := by simpa using hf 3 (by decide) (by kernel_rfl)
            clear hf hg
            go_simp
            refine (sameE_c w' _ _ LE LE (h1.1 (.inl rfl)) (h3.1 (.inr rfl))).mono ?_
            rw [decide_eq_true rfl]
            rintro e w2 ⟨rfl, k2⟩
            exact ⟨_, rfl, OrF.b (.inl rfl), Free.KeepsP.of k2 (by simp)⟩
          intro v4
          go_frame
          refine Free.walk_quiet (c := .bool true) rfl rfl ?_ ?_
          · intro w' hg hf
            have h4 : OrF LE BE 4 v4 w' := by simpa using hf 4 (by decide) (by kernel_rfl)
            have e4 := h4.2.2.1 (.inl rfl)
            clear hf h4
            subst e4
            go_simp <;> exact rfl
          go_frame
          (apply Free.walk_quiet rfl rfl; (intro w' hg hf; clear hf; go_simp <;> exact rfl))
          go_frame
          apply Free.walk_loud rfl rfl
          · intro w' hg hf
            have hkw : Keeps [] wr w' := hg.to ((Keeps.refl [] wr).drew) (fun b h => by obtain ⟨_, _, _, h⟩ := h; exact h.elim)
            clear hf hg
            go_simp
            refine (hea.out w' (ta.out.keeps hkw)).mono ?_
            rintro e w2 ⟨v, rfl, hB, k2⟩
            exact ⟨_, rfl, OrF.s (.inl rfl) hB.slB, Free.KeepsP.of k2 (by simp)⟩
          intro v7
          go_frame
          apply Free.walk_loud rfl rfl
          · intro w' hg hf
            have h7 : OrF LE BE 7 v7 w' := by simpa using hf 7 (by decide) (by kernel_rfl)
            have hs := h7.2.1 (.inl rfl)
            have hrs := run_str hs
            clear hf hg h7
            go_simp
            exact ⟨OrF.c (.inl rfl), Free.KeepsP.refl _ _⟩
          intro v8
          go_frame
          (apply Free.walk_quiet rfl rfl; (intro w' hg hf; clear hf; go_simp <;> exact rfl))
          go_frame
          apply Free.walk_loud rfl rfl
          · intro w' hg hf
            have hkw : Keeps [] wr w' := hg.to ((Keeps.refl [] wr).drew) (fun b h => by obtain ⟨_, _, _, h⟩ := h; exact h.elim)
            clear hf hg
            go_simp
            refine (heb.out w' (tb.out.keeps hkw)).mono ?_
            rintro e w2 ⟨v, rfl, hB, k2⟩
            exact ⟨_, rfl, OrF.s (.inr rfl) hB.slB, Free.KeepsP.of k2 (by simp)⟩
          intro v10
          go_frame
          apply Free.walk_loud rfl rfl
          · intro w' hg hf
            have h10 : OrF LE BE 10 v10 w' := by simpa using hf 10 (by decide) (by kernel_rfl)
            have hs := h10.2.1 (.inr rfl)
            have hrs := run_str hs
            clear hf hg h10
            go_simp
            exact ⟨OrF.c (.inr rfl), Free.KeepsP.refl _ _⟩
          intro v11
          go_frame
          refine Free.walk_quiet (c := .bool true) rfl rfl ?_ ?_
          · intro w' hg hf
            have h8 : OrF LE BE 8 v8 w' := by simpa using hf 8 (by decide) (by kernel_rfl)
            have h11 : OrF LE BE 11 v11 w' := by simpa using hf 11 (by decide) (by kernel_rfl)
            have e8 := h8.2.2.2 (.inl rfl)
            have e11 := h11.2.2.2 (.inr rfl)
            clear hf h8 h11
            subst e8 e11
            go_simp <;> exact rfl
          go_frame
          (apply Free.walk_quiet rfl rfl; (intro w' hg hf; clear hf; go_simp <;> exact rfl))
          go_frame
          (apply Free.walk_quiet rfl rfl; (intro w' hg hf; clear hf; go_simp <;> exact rfl))
          go_frame
          apply Free.walk_loud rfl rfl
          · intro w' hg hf
            have hkw : Keeps [] wr w' := hg.to ((Keeps.refl [] wr).drew) (fun b h => by obtain ⟨_, _, _, h⟩ := h; exact h.elim)
            clear hf hg
            go_simp
            refine (haw.out w').mono ?_
            rintro e w2 ⟨rfl, k2⟩
            exact ⟨_, rfl, OrF.b (.inr rfl), Free.KeepsP.of k2 (by simp)⟩
          intro v15
          go_frame
          refine Free.walk_quiet (c := .bool true) rfl rfl ?_ ?_
          · intro w' hg hf
            have h15 : OrF LE BE 15 v15 w' := by simpa using hf 15 (by decide) (by kernel_rfl)
            have e15 := h15.2.2.1 (.inr rfl)
            clear hf h15
            subst e15
            go_simp <;> exact rfl
          go_frame
          (apply Free.walk_quiet rfl rfl; (intro w' hg hf; clear hf; go_simp <;> exact rfl))
          refine Free.walk_nil ?_
          intro wF hg hf
          have hkF := Lib.hid (hg.to (S := []) ((Keeps.refl [] wr).drew) (fun b h => by obtain ⟨_, h⟩ := h; exact h.elim))
          clear hf hg
          go_frame
          go_wp2
          go_ret
          exact ⟨rfl, hkwx.out.trans hkF.out⟩
end Go.Proofs.Ytblaaafpglomnaa

namespace Go.Proofs.Ytblaaafpglomnaa
open Go Go.RowKit
attribute [local go_sem] Oper.semAt_some

def FdF (B : Nat) (R : Value) (i : Nat) (v : Value) (w : World) : Prop := (i = 11 → v = R) ∧ (i = 16 → ∃ g, v = .pointer (some ⟨g, 0, none⟩) ∧ B ≤ g ∧ w.heap[g]? = some (.cells #[.int .i64 0, .int .u64 0, .int .i64 0, .int .i64 0, .int .i64 0, .int .i64 0, .int .i64 0, .bool false, .bool false, .bool false, .int .i64 0, .int .i64 0] tE (0, 0)))
def FdT (B : Nat) (k b : Nat) : Prop := k = 17 ∧ B ≤ b
def FdK (k i : Nat) : Bool := k == 17 && i == 16
theorem FdF.keep {B : Nat} {R : Value} {i k : Nat} {v : Value} {w w' : World} (h : FdF B R i v w) (hne : i ≠ k) (hK : FdK k i = false) (hk : Free.KeepsP (FdT B k) w w') : FdF B R i v w' := by
  refine ⟨h.1, fun hi => ?_⟩
  obtain ⟨g, e, hB, hg⟩ := h.2 hi
  have h17 : k ≠ 17 := fun e => by subst e hi; simp [FdK] at hK
  exact ⟨g, e, hB, (hk.block g (lt_of_blk hg) (fun h => h17 h.1)).trans hg⟩
theorem FdT_low {ops : Array Oper} {B i b : Nat} (h : Free.sx ops (FdT B) i b) : B ≤ b := by obtain ⟨k, _, _, h⟩ := h; exact h.2
theorem FdT_lowA {B b : Nat} (h : Free.sa (FdT B) b) : B ≤ b := by obtain ⟨k, h⟩ := h; exact h.2
theorem Free.KeepsP.keeps0 {S : Nat → Prop} {w w' : World} (hg : Free.KeepsP S w.drew w') (h : ∀ b, S b → w.drew.heap.size ≤ b) : Keeps [] w w' := hg.to ((Keeps.refl [] w).drew) (fun b hb => .inr (h b hb))


set_option maxRecDepth 100000 in
set_option maxHeartbeats 16000000 in
theorem removes_c (w : World) (v0 : Value) (l : List OpT) (p : Nat) (hd : Int) (h : shO.R w v0 l) (hok : ∀ o ∈ l, o.ok) (hp : p < 256) (hh : W64 hd) :
    Calls Try.prog 7 #[v0, .int .u8 p, .int .i64 hd] w fun e w' => e = .returned (.bool true) ∧ Keeps [] w w' := by
  obtain ⟨a0, c0, rfl, hlc, hcm, _⟩ := h.form
  obtain ⟨M, hM⟩ : ∃ N, l.length = N := ⟨_, rfl⟩
  rw [hM] at hlc h ⊢
  have hMx : M ≤ 9223372036854775807 := by unfold Go.maxLen at hcm; omega
  have haw := fun W => awake_c W
  replace hM := Lib.hid hM
  replace h := Lib.hid h
  replace hok := Lib.hid hok
  replace haw := Lib.hid haw
  by_cases hbig : 40 < M
  · have hb2 : (40 : Int) < M := by omega
    go_enter Try.func7, Try.ntmps7
    go_wp2_with fail
    refine (haw.out _).mono ?_
    rintro e w1 ⟨rfl, hk1⟩
    replace hk1 := Lib.hid hk1
    go_wp2
    go_ret
    exact ⟨rfl, hk1.out⟩
  have hb2 : decide ((40 : Int) < M) = false := by simp; omega
  by_cases hh1 : hd < 1
  · go_enter Try.func7, Try.ntmps7
    go_wp2_with fail
    refine (haw.out _).mono ?_
    rintro e w1 ⟨rfl, hk1⟩
    replace hk1 := Lib.hid hk1
    go_wp2
    go_ret
    exact ⟨rfl, hk1.out⟩
  have hh2 : decide (hd < 1) = false := by simp; omega
  have hgS := runS_good hok.out
  have hlS := runS_len l
  rw [hM.out] at hlS
  have hrc := run_c w _ l h.out hok.out (by rw [hM.out]; omega)
  obtain ⟨S, hSe⟩ : ∃ S, runS l = S := ⟨_, rfl⟩
  rw [hSe] at hgS hlS hrc
  have hl1 := fun W bt bm t => list_c W bt bm S t hgS
  obtain ⟨N, hN⟩ : ∃ N, (lst S).length = N := ⟨_, rfl⟩
  have hN1 : N ≤ 100 := by
    rw [← hN]
    simp only [lst, List.length_map]; omega
  have hback := fun (j : Nat) (hj : j < (lst S).length) => back hgS hj (h' := hd) (by omega) hh
  have hwp : IntKind.i64.wrap (p : Int) = p := IntWalk.i64_in _ (by omega)
  replace hrc := Lib.hid hrc
  replace hl1 := Lib.hid hl1
  replace hN := Lib.hid hN
  replace hback := Lib.hid hback
  replace hwp := Lib.hid hwp
  replace hgS := Lib.hid hgS
  clear hlS hSe
  go_enter Try.func7, Try.ntmps7
  go_wp2_with fail
  refine hrc.out.mono ?_
  rintro e w1 ⟨bt, bm, v1, rfl, t1, hR1, k1, hb1, hb2'⟩
  obtain ⟨a1, c1, rfl, _⟩ := hR1.form
  have hkB : Keeps [] w1 (w1.alloc (.cells #[.slice a1 S.length c1] tTb)) := (Keeps.refl _ _).alloc _
  have t2 := Lib.hid (t1.keeps hkB)
  have hk2 := Lib.hid (k1.trans hkB)
  clear hrc t1 hR1 k1 hkB
  go_wp2_with fail
  refine (hl1.out _ bt bm t2.out).mono ?_
  rintro e w2 ⟨v2, rfl, hO2, k2⟩
  have t3 := Lib.hid (t2.out.keeps k2)
  have hk3 := Lib.hid (hk2.out.trans k2)
  have hR2 := hO2.r
  obtain ⟨a2, c2, rfl, hlc2, hcm2, _⟩ := hR2.form
  rw [hN.out] at hR2 hlc2 ⊢
  clear hO2 k2 t2 hk2 hl1
  by_cases hN0 : N = 0
  · subst hN0
    go_wp2_with fail
    refine (haw.out _).mono ?_
    rintro e w3 ⟨rfl, hk4⟩
    replace hk4 := Lib.hid hk4
    go_wp2
    go_ret
    exact ⟨rfl, hk3.out.trans hk4.out⟩
  have hNz : ((N : Int) == 0) = false := by simp; omega
  obtain ⟨j, hj⟩ : ∃ j, p % N = j := ⟨_, rfl⟩
  have hjN : j < N := by rw [← hj]; exact Nat.mod_lt _ (by omega)
  have hmd : Int.tmod (p : Int) (N : Int) = ((j : Nat) : Int) := by rw [← hj]; exact (Int.ofNat_tmod p N).symm
  have hjl : j < (lst S).length := by rw [hN.out]; exact hjN
  obtain ⟨⟨h0, hf, hre⟩, hlr, hg', hadd, hg2, hf2, hl2, hwe⟩ := hback.out j hjl
  obtain ⟨g, o, d, hv, hel⟩ := hR2.elem hjl
  rw [hN.out] at hv
  cases hv
  obtain ⟨⟨x0, x1, x2, x3, x4, x5, x6, x7, x8, x9, x10, x11⟩, hx⟩ : ∃ x, (lst S)[j] = x := ⟨_, rfl⟩
  rw [hx] at hel hf hre hlr hg' hadd hg2 hf2 hl2 hwe
  have hkx : kOk (x0, x1) := ⟨hwe.cl, hwe.n⟩
  obtain ⟨S1, hS1⟩ : ∃ T, dele (⟨x0, x1, x2, x3, x4, x5, x6, x7, x8, x9, x10, x11⟩ : En).key S = T := ⟨_, rfl⟩
  rw [hS1] at hre hlr hg' hadd hg2 hf2 hl2
  obtain ⟨S2, hS2⟩ : ∃ T, ins (⟨x0, x1, x2, x3, x4, x5, x6, x7, x8, x9, x10, x11⟩, hd) S1 = T := ⟨_, rfl⟩
  rw [hS2] at hadd hg2 hf2 hl2
  have hgl := hgS.out.len
  have hS1l : S1.length ≤ 1024 := hg'.len
  have hfd1 := fun W (hk : Keeps [] w2 W) => find_c W bt bm S x0 x1 (t3.out.keeps hk) hkx
  rw [show ((x0, x1) : Ky) = (⟨x0, x1, x2, x3, x4, x5, x6, x7, x8, x9, x10, x11⟩ : En).key from rfl] at hfd1
  simp only [hf, Option.getD_some, Option.isSome_some, enV] at hfd1
  have hrm := fun W (t : TM W bt bm S) => remove_c W bt bm S (⟨x0, x1, x2, x3, x4, x5, x6, x7, x8, x9, x10, x11⟩ : En).key t hkx
  simp only [hre] at hrm
  have had := fun W (t : TM W bt bm S1) => add_c W bt bm S1 ⟨x0, x1, x2, x3, x4, x5, x6, x7, x8, x9, x10, x11⟩ hd t hwe hh hS1l
  simp only [hadd, enV] at had
  have hl3 := fun W t => list_c W bt bm S1 t hg'
  have hl4 := fun W t => list_c W bt bm S2 t hg2
  rw [hl2] at hl4
  have hfd2 := fun W (t : TM W bt bm S2) => find_c W bt bm S2 x0 x1 t hkx
  rw [show ((x0, x1) : Ky) = (⟨x0, x1, x2, x3, x4, x5, x6, x7, x8, x9, x10, x11⟩ : En).key from rfl] at hfd2
  simp only [hf2, Option.getD_some, Option.isSome_some, enV] at hfd2
  have hnc := t3.out.mp.noCells ktK
  have f0 := hel 0 _ rfl
  have f1 := hel 1 _ rfl
  simp only [shE, En.cs, Nat.add_zero] at f0 f1
  have hgb : g ≠ bm := fun e => by subst e; rw [hnc] at f0; cases f0
  have hgl2 := lt_of_cell f0
  obtain ⟨NR, hNR⟩ : ∃ n, (lst S1).length = n := ⟨_, rfl⟩
  obtain ⟨L, hL⟩ : ∃ L, lst S = L := ⟨_, rfl⟩
  rw [hL] at hR2 hlr hl4
  have hjL : j < L.length := by rw [← hL]; exact hjl
  have hxL : L[j] = ⟨x0, x1, x2, x3, x4, x5, x6, x7, x8, x9, x10, x11⟩ := by rw [← hx]; congr 1; exact hL.symm
  replace hxL := Lib.hid hxL
  have hLn : L.length = N := by rw [← hL]; exact hN.out
  replace hfd1 := Lib.hid hfd1
  replace hrm := Lib.hid hrm
  replace had := Lib.hid had
  replace hl3 := Lib.hid hl3
  replace hl4 := Lib.hid hl4
  replace hfd2 := Lib.hid hfd2
  replace hR2 := Lib.hid hR2
  replace hlr := Lib.hid hlr
  replace hnc := Lib.hid hnc
  replace hLn := Lib.hid hLn
  clear hf hre hg' hadd hg2 hf2 hl2 hwe hback hx hS1 hS2 hel hgS hgl hS1l hL hjl hkx hN
  have hjN2 : (j : Int) < N := by omega
  go_wp2
  refine Free.wp_region_free (by kernel_rfl) (by kernel_rfl) (fun i => i == 11 || i == 16 || i == 17) (FdF w2.drew.heap.size (.tuple #[.agg #[.int .i64 x0, .int .u64 x1, .int .i64 x2, .int .i64 x3, .int .i64 x4, .int .i64 x5, .int .i64 x6, .bool x7, .bool x8, .bool x9, .int .i64 x10, .int .i64 x11], .int .i64 h0, .bool true])) (FdT w2.drew.heap.size) FdK (fun i k v w w2 _ hne hK _ hF hk => hF.keep hne hK hk) ?_
  (apply Free.walk_quiet rfl rfl; (intro w' hg hf; clear hf; go_simp <;> exact rfl))
  (apply Free.walk_quiet rfl rfl; (intro w' hg hf; clear hf; go_simp <;> exact rfl))
  (apply Free.walk_quiet rfl rfl; (intro w' hg hf; clear hf; go_simp <;> exact rfl))
  (apply Free.walk_quiet rfl rfl; (intro w' hg hf; clear hf; go_simp <;> exact rfl))
  (apply Free.walk_quiet rfl rfl; (intro w' hg hf; clear hf; go_simp <;> exact rfl))
  apply Free.walk_quiet rfl rfl
  · intro w' hg hf; clear hf
    have r0 := (hg.cell _ _ (lt_of_cell f0) (fun h => Nat.not_le_of_lt (lt_of_cell f0) (FdT_low h))).trans f0
    go_simp <;> exact rfl
  (apply Free.walk_quiet rfl rfl; (intro w' hg hf; clear hf; go_simp <;> exact rfl))
  (apply Free.walk_quiet rfl rfl; (intro w' hg hf; clear hf; go_simp <;> exact rfl))
  (apply Free.walk_quiet rfl rfl; (intro w' hg hf; clear hf; go_simp <;> exact rfl))
  (apply Free.walk_quiet rfl rfl; (intro w' hg hf; clear hf; go_simp <;> exact rfl))
  apply Free.walk_quiet rfl rfl
  · intro w' hg hf; clear hf
    have r0 := (hg.cell _ _ (lt_of_cell f1) (fun h => Nat.not_le_of_lt (lt_of_cell f1) (FdT_low h))).trans f1
    go_simp <;> exact rfl
  apply Free.walk_loud rfl rfl
  · intro w' hg hf; clear hf
    go_simp
    refine (hfd1.out w' (hg.keeps0 (fun b h => FdT_low h))).mono ?_
    rintro e w2 ⟨rfl, k2⟩
    exact ⟨_, rfl, ⟨fun _ => rfl, fun h => absurd h (by decide)⟩, Free.KeepsP.of k2 (by simp)⟩
  intro v11
  refine Free.walk_quiet (c := (.tuple #[.agg #[.int .i64 x0, .int .u64 x1, .int .i64 x2, .int .i64 x3, .int .i64 x4, .int .i64 x5, .int .i64 x6, .bool x7, .bool x8, .bool x9, .int .i64 x10, .int .i64 x11], .int .i64 h0, .bool true])) rfl rfl ?_ ?_
  · intro w' hg hf
    have h11 : FdF w2.drew.heap.size (.tuple #[.agg #[.int .i64 x0, .int .u64 x1, .int .i64 x2, .int .i64 x3, .int .i64 x4, .int .i64 x5, .int .i64 x6, .bool x7, .bool x8, .bool x9, .int .i64 x10, .int .i64 x11], .int .i64 h0, .bool true]) 11 v11 w' := by simpa using hf 11 (by decide) (by kernel_rfl)
    have e11 := h11.1 rfl
    clear hf h11
    subst e11
    go_simp <;> exact rfl
  (apply Free.walk_quiet rfl rfl; (intro w' hg hf; clear hf; go_simp <;> exact rfl))
  (apply Free.walk_quiet rfl rfl; (intro w' hg hf; clear hf; go_simp <;> exact rfl))
  (apply Free.walk_quiet rfl rfl; (intro w' hg hf; clear hf; go_simp <;> exact rfl))
  apply Free.walk_loud rfl rfl
  · intro w' hg hf; clear hf
    have hwB := hg.size
    go_simp
    exact ⟨⟨fun h => absurd h (by decide), fun _ => ⟨_, rfl, hwB, heap_alloc_new _ _⟩⟩, Free.KeepsP.alloc _ _ _⟩
  intro v16
  apply Free.walk_loud rfl rfl
  · intro w' hg hf
    have h16 : FdF w2.drew.heap.size (.tuple #[.agg #[.int .i64 x0, .int .u64 x1, .int .i64 x2, .int .i64 x3, .int .i64 x4, .int .i64 x5, .int .i64 x6, .bool x7, .bool x8, .bool x9, .int .i64 x10, .int .i64 x11], .int .i64 h0, .bool true]) 16 v16 w' := by simpa using hf 16 (by decide) (by kernel_rfl)
    clear hf
    obtain ⟨gz, rfl, hgB, hgz⟩ := h16.2 rfl
    have hfz := frz hgz
    obtain ⟨z0, z1, z2, z3, z4, z5, z6, z7, z8, z9, z10, z11, _⟩ := cells12 hgz
    go_simp
    exact ⟨⟨fun h => absurd h (by decide), fun h => absurd h (by decide)⟩, Free.KeepsP.of (st12 hgz).2 (fun b hb => ⟨rfl, by simp only [List.mem_singleton] at hb; subst hb; exact hgB⟩)⟩
  intro v17
  (apply Free.walk_quiet rfl rfl; (intro w' hg hf; clear hf; go_simp <;> exact rfl))
  (apply Free.walk_quiet rfl rfl; (intro w' hg hf; clear hf; go_simp <;> exact rfl))
  refine Free.walk_nil ?_
  intro w3 hg hf
  have hkR := Lib.hid (hg.to ((Keeps.refl [] w2).drew) (fun b h => .inr (FdT_lowA h)))
  clear hf hg
  have t4 := Lib.hid (t3.out.keeps hkR.out)
  have e0 := (hkR.out.cell _ _ hgl2 (by simp)).trans f0
  have e1 := (hkR.out.cell _ _ hgl2 (by simp)).trans f1
  have hR3 := hR2.out.keeps hkR.out
  have hkd := Lib.hid (hk3.out.trans hkR.out).drew
  have td := t4.out.keeps ((Keeps.refl [] w3).drew)
  have hncd := td.mp.noCells ktK
  have hRd := Lib.hid (hR3.keeps ((Keeps.refl [] w3).drew))
  have hrm3 := Lib.hid (hrm.out w3.drew td)
  replace hncd := Lib.hid hncd
  have hbl := Lib.hid td.lt
  clear f0 f1 hR3 td hkR t3 hR2 hk3 hrm t4 hfd1 hnc hgl2
  go_frame
  go_wp2
  refine Free.wp_region_chain (fun i => i == 11) (fun i => true) (fun jj b => jj = 11 ∧ b = bm) (by kernel_rfl) (by kernel_rfl) (by kernel_rfl) ?_
  (repeat (first | (apply Free.cw_pure rfl rfl; (intro w'; go_simp <;> exact rfl); go_frame) | (apply Free.cw_steady rfl rfl rfl; (intro w' hS2; have z0 := Free.sx_cell hS2 e0 (fun jj hp hT => hgb hT.2); have z1 := Free.sx_cell hS2 e1 (fun jj hp hT => hgb hT.2); go_simp <;> exact rfl); go_frame)))
  refine Free.cw_loud rfl rfl (fun K hK => ?_)
  go_wp2_with fail
  refine hrm3.out.mono ?_
  rintro e w5 ⟨rfl, t5, k5⟩
  refine hK _ _ rfl (Free.KeepsP.of k5 (fun b hb => ⟨trivial, by simpa using hb⟩)) ?_
  clear hK K
  have hk5 := Lib.hid (hkd.out.fresh k5 (fun b hb => .inr (by simp at hb; omega)))
  have hR5 := hRd.out.keepN k5 (fun b hb oo => by simp at hb; subst hb; exact hncd.out oo)
  clear e0 e1 hrm3 k5 hkd hRd hncd hbl
  replace t5 := Lib.hid t5
  (repeat (apply Free.cw_pure rfl rfl; (intro w'; go_simp <;> exact rfl); go_frame))
  refine Free.cw_nil ?_
  have hwr : Hid (IntKind.i64.wrap ((j : Int) + 1) = ((j + 1 : Nat) : Int)) := Lib.hid (by rw [IntKind.wrap_i64]; omega)
  have hjc : j ≤ c2 := by omega
  have hjc1 : j + 1 ≤ c2 := by omega
  have hkD : Keeps [] w5 ((w5.alloc (.cells #[] tE)).drew) := ((Keeps.refl [] w5).alloc _).drew
  have hO0 := (Sh.O.fresh shE w5 w5.heap.size tE (Nat.le_refl _)).keeps ((Keeps.refl [] _).drew)
  have hRk : shE.R w5 (.slice (some ⟨g, o, none⟩) j c2) (L.take j) := hR5.init j (by rw [hLn.out]; omega)
  have hRt : shE.R w5 (.slice (if c2 = j + 1 then some ⟨g, o, none⟩ else some ⟨g, o + (j + 1) * 12, none⟩) (N - (j + 1)) (c2 - (j + 1))) (L.drop (j + 1)) := by
    have := hR5
    rw [← hLn.out] at this ⊢
    exact this.tail (j + 1) (by rw [hLn.out]; omega)
  have hNj : (L.drop (j + 1)).length = N - (j + 1) := by rw [List.length_drop, hLn.out]
  have hkD2 := Lib.hid hkD
  have hRkd := Lib.hid (hRk.keeps hkD)
  have hRtd := Lib.hid hRt
  obtain ⟨B, hB⟩ : ∃ B, w5.heap.size = B := ⟨_, rfl⟩
  rw [hB] at hO0
  replace hO0 := Lib.hid hO0
  replace hR5 := Lib.hid hR5
  replace hNj := Lib.hid hNj
  clear hkD hRk hRt
  go_wp2
  refine Free.wp_region_chain (fun i => i == 0 || i == 4 || i == 9) (fun i => true) (fun jj b => (jj = 4 ∨ jj = 9) ∧ B ≤ b) (by kernel_rfl) (by kernel_rfl) (by kernel_rfl) ?_
  (repeat (apply Free.cw_pure rfl rfl; (intro w'; go_simp <;> exact rfl); go_frame))
  refine Free.cw_loud rfl rfl (fun K hK => ?_)
  go_wp2
  refine hK _ _ rfl (Free.KeepsP.alloc _ _ _) ?_
  clear hK K
  (repeat (apply Free.cw_pure rfl rfl; (intro w'; go_simp <;> exact rfl); go_frame))
  refine Free.cw_loud rfl rfl (fun K hK => ?_)
  refine Sh.wp_app shE B infoE rfl Try.underlying31 (.slice (some ⟨B, 0, none⟩) 0 0) (.slice (some ⟨g, o, none⟩) j c2) [] (L.take j) _ _ rfl rfl rfl hO0.out hRkd.out (by simp; omega) (by simp; omega) ?_
  intro v6 w6 hO6 hG6
  refine hK _ _ rfl (Free.KeepsP.of hG6.keepsO (fun b hb => ⟨.inl rfl, hO0.out.ge b (by simpa using hb)⟩)) ?_
  clear hK K
  rw [List.nil_append] at hO6
  have hk6 := Lib.hid (Grw.keeps ((Keeps.refl [] w5).trans hkD2.out) hG6 (fun b hb => by have := hO0.out.ge b hb; omega))
  obtain ⟨a6, c6, rfl⟩ := hO6.form
  have hlj : (L.take j).length = j := by rw [List.length_take, hLn.out]; omega
  rw [hlj] at hO6 ⊢
  have hz6 : B ≤ w6.heap.size := by have := hk6.out.size; omega
  have hge6 := hO6.ge
  have hRt6 := Lib.hid (hRtd.out.keeps hk6.out)
  replace hO6 := Lib.hid hO6
  clear hG6 hO0 hRkd hRtd hkD2
  (repeat (apply Free.cw_pure rfl rfl; (intro w'; go_simp <;> exact rfl); go_frame))
  apply Free.cw_pure rfl rfl
  · intro w'
    go_simp
    rw [hwr.out, if_pos ⟨by omega, by omega⟩, Int.toNat_natCast]
    exact ⟨rfl, rfl⟩
  go_frame
  have hRt7 := hRt6.out
  clear hRt6
  generalize (if c2 = j + 1 then some ({ block := g, off := o, spot := none } : Addr) else some { block := g, off := o + (j + 1) * 12, spot := none }) = ra at *
  have hRt6 := Lib.hid hRt7
  clear hRt7
  refine Free.cw_loud rfl rfl (fun K hK => ?_)
  refine Sh.wp_app shE B infoE rfl Try.underlying31 (.slice a6 j c6) _ _ _ _ _ rfl rfl rfl hO6.out hRt6.out (by rw [hlj, hNj.out]; omega) hz6 ?_
  intro v7 w7 hO7 hG7
  refine hK _ _ rfl (Free.KeepsP.of hG7.keepsO (fun b hb => ⟨.inr rfl, hge6 b (by simpa using hb)⟩)) ?_
  clear hK K
  rw [← hlr.out] at hO7
  have hk7 := Lib.hid (Grw.keeps hk6.out hG7 (fun b hb => by have := hge6 b hb; omega))
  obtain ⟨a7, c7, rfl⟩ := hO7.form
  have t7 := Lib.hid (t5.out.keeps hk7.out)
  have hR7 := Lib.hid (hR5.out.keeps hk7.out)
  have hk07 := Lib.hid (hk5.out.trans hk7.out)
  have hS7 := hO7.r
  rw [hNR] at hS7 ⊢
  replace hS7 := Lib.hid hS7
  clear hG7 hO7 hO6 hRt6 hk6 hk7 t5 hR5 hk5 hge6 hz6 hlj hNj
  (repeat (apply Free.cw_pure rfl rfl; (intro w'; go_simp <;> exact rfl); go_frame))
  refine Free.cw_nil ?_
  go_wp2_with fail
  refine (hl3.out w7 t7.out).mono ?_
  rintro e w8 ⟨v8, rfl, hO8, k8⟩
  have t8 := Lib.hid (t7.out.keeps k8)
  have hR8 := hR7.out.keeps k8
  have hk8 := Lib.hid (hk07.out.trans k8)
  have hS8 := hO8.r
  obtain ⟨a8, c8, rfl⟩ := hO8.form
  rw [hNR] at hS8 ⊢
  have hsm := sameE_c w8 _ _ _ _ hS8 (hS7.out.keeps k8)
  rw [decide_eq_true rfl] at hsm
  replace hsm := Lib.hid hsm
  replace hR8 := Lib.hid hR8
  clear hO8 hS8 k8 hS7 hR7 hk07 t7 hl3
  go_wp2_with fail
  refine hsm.out.mono ?_
  rintro e w9 ⟨rfl, k9⟩
  have t9 := t8.out.keeps k9
  have hncd := t9.mp.noCells ktK
  have hR9 := hR8.out.keeps k9
  have hk9 := Lib.hid (hk8.out.trans k9)
  have had9 := Lib.hid (had.out w9 t9)
  obtain ⟨g9, o9, d9, hv9, hel⟩ := hR9.elem (k := j) (by rw [hLn.out]; exact hjN)
  rw [hLn.out] at hv9
  cases hv9
  have f0 := hel 0 _ rfl
  have f1 := hel 1 _ rfl
  have f2 := hel 2 _ rfl
  have f3 := hel 3 _ rfl
  have f4 := hel 4 _ rfl
  have f5 := hel 5 _ rfl
  have f6 := hel 6 _ rfl
  have f7 := hel 7 _ rfl
  have f8 := hel 8 _ rfl
  have f9 := hel 9 _ rfl
  have f10 := hel 10 _ rfl
  have f11 := hel 11 _ rfl
  have hxe := hxL.out
  rw [hxe] at f0 f1 f2 f3 f4 f5 f6 f7 f8 f9 f10 f11
  simp only [shE, En.cs, Nat.add_zero] at f0 f1 f2 f3 f4 f5 f6 f7 f8 f9 f10 f11
  have hgl := lt_of_cell f0
  replace hR9 := Lib.hid hR9
  replace hncd := Lib.hid hncd
  clear hsm k9 t8 hR8 hk8 t9 had hel
  go_wp2_with fail
  refine had9.out.mono ?_
  rintro e w10 ⟨rfl, t10, k10⟩
  have hR10 := hR9.out.keepN k10 (fun b hb oo => by simp at hb; subst hb; exact hncd.out oo)
  have hk10 := Lib.hid (hk9.out.fresh k10 (fun b hb => .inr (by simp at hb; omega)))
  clear had9 hR9 hk9 hncd k10 f0 f1 f2 f3 f4 f5 f6 f7 f8 f9 f10 f11
  obtain ⟨g10, o10, d10, hv10, hel⟩ := hR10.elem (k := j) (by rw [hLn.out]; exact hjN)
  rw [hLn.out] at hv10
  cases hv10
  have f0 := hel 0 _ rfl
  have f1 := hel 1 _ rfl
  rw [hxe] at f0 f1
  simp only [shE, En.cs, Nat.add_zero] at f0 f1
  have hfd3 := Lib.hid (fun W (hk : Keeps [] w10 W) => hfd2.out W (t10.keeps hk))
  replace hR10 := Lib.hid hR10
  replace t10 := Lib.hid t10
  clear hel hfd2 hxe
  go_wp2
  refine Free.wp_region_free (by kernel_rfl) (by kernel_rfl) (fun i => i == 11 || i == 16 || i == 17) (FdF w10.drew.heap.size (.tuple #[.agg #[.int .i64 x0, .int .u64 x1, .int .i64 x2, .int .i64 x3, .int .i64 x4, .int .i64 x5, .int .i64 x6, .bool x7, .bool x8, .bool x9, .int .i64 x10, .int .i64 x11], .int .i64 hd, .bool true])) (FdT w10.drew.heap.size) FdK (fun i k v w w2 _ hne hK _ hF hk => hF.keep hne hK hk) ?_
  (apply Free.walk_quiet rfl rfl; (intro w' hg hf; clear hf; go_simp <;> exact rfl))
  (apply Free.walk_quiet rfl rfl; (intro w' hg hf; clear hf; go_simp <;> exact rfl))
  (apply Free.walk_quiet rfl rfl; (intro w' hg hf; clear hf; go_simp <;> exact rfl))
  (apply Free.walk_quiet rfl rfl; (intro w' hg hf; clear hf; go_simp <;> exact rfl))
  (apply Free.walk_quiet rfl rfl; (intro w' hg hf; clear hf; go_simp <;> exact rfl))
  apply Free.walk_quiet rfl rfl
  · intro w' hg hf; clear hf
    have r0 := (hg.cell _ _ (lt_of_cell f0) (fun h => Nat.not_le_of_lt (lt_of_cell f0) (FdT_low h))).trans f0
    go_simp <;> exact rfl
  (apply Free.walk_quiet rfl rfl; (intro w' hg hf; clear hf; go_simp <;> exact rfl))
  (apply Free.walk_quiet rfl rfl; (intro w' hg hf; clear hf; go_simp <;> exact rfl))
  (apply Free.walk_quiet rfl rfl; (intro w' hg hf; clear hf; go_simp <;> exact rfl))
  (apply Free.walk_quiet rfl rfl; (intro w' hg hf; clear hf; go_simp <;> exact rfl))
  apply Free.walk_quiet rfl rfl
  · intro w' hg hf; clear hf
    have r0 := (hg.cell _ _ (lt_of_cell f1) (fun h => Nat.not_le_of_lt (lt_of_cell f1) (FdT_low h))).trans f1
    go_simp <;> exact rfl
  apply Free.walk_loud rfl rfl
  · intro w' hg hf; clear hf
    go_simp
    refine (hfd3.out w' (hg.keeps0 (fun b h => FdT_low h))).mono ?_
    rintro e w2 ⟨rfl, k2⟩
    exact ⟨_, rfl, ⟨fun _ => rfl, fun h => absurd h (by decide)⟩, Free.KeepsP.of k2 (by simp)⟩
  intro v11
  refine Free.walk_quiet (c := (.tuple #[.agg #[.int .i64 x0, .int .u64 x1, .int .i64 x2, .int .i64 x3, .int .i64 x4, .int .i64 x5, .int .i64 x6, .bool x7, .bool x8, .bool x9, .int .i64 x10, .int .i64 x11], .int .i64 hd, .bool true])) rfl rfl ?_ ?_
  · intro w' hg hf
    have h11 : FdF w10.drew.heap.size (.tuple #[.agg #[.int .i64 x0, .int .u64 x1, .int .i64 x2, .int .i64 x3, .int .i64 x4, .int .i64 x5, .int .i64 x6, .bool x7, .bool x8, .bool x9, .int .i64 x10, .int .i64 x11], .int .i64 hd, .bool true]) 11 v11 w' := by simpa using hf 11 (by decide) (by kernel_rfl)
    have e11 := h11.1 rfl
    clear hf h11
    subst e11
    go_simp <;> exact rfl
  (apply Free.walk_quiet rfl rfl; (intro w' hg hf; clear hf; go_simp <;> exact rfl))
  (apply Free.walk_quiet rfl rfl; (intro w' hg hf; clear hf; go_simp <;> exact rfl))
  (apply Free.walk_quiet rfl rfl; (intro w' hg hf; clear hf; go_simp <;> exact rfl))
  apply Free.walk_loud rfl rfl
  · intro w' hg hf; clear hf
    have hwB := hg.size
    go_simp
    exact ⟨⟨fun h => absurd h (by decide), fun _ => ⟨_, rfl, hwB, heap_alloc_new _ _⟩⟩, Free.KeepsP.alloc _ _ _⟩
  intro v16
  apply Free.walk_loud rfl rfl
  · intro w' hg hf
    have h16 : FdF w10.drew.heap.size (.tuple #[.agg #[.int .i64 x0, .int .u64 x1, .int .i64 x2, .int .i64 x3, .int .i64 x4, .int .i64 x5, .int .i64 x6, .bool x7, .bool x8, .bool x9, .int .i64 x10, .int .i64 x11], .int .i64 hd, .bool true]) 16 v16 w' := by simpa using hf 16 (by decide) (by kernel_rfl)
    clear hf
    obtain ⟨gz, rfl, hgB, hgz⟩ := h16.2 rfl
    have hfz := frz hgz
    obtain ⟨z0, z1, z2, z3, z4, z5, z6, z7, z8, z9, z10, z11, _⟩ := cells12 hgz
    go_simp
    exact ⟨⟨fun h => absurd h (by decide), fun h => absurd h (by decide)⟩, Free.KeepsP.of (st12 hgz).2 (fun b hb => ⟨rfl, by simp only [List.mem_singleton] at hb; subst hb; exact hgB⟩)⟩
  intro v17
  (apply Free.walk_quiet rfl rfl; (intro w' hg hf; clear hf; go_simp <;> exact rfl))
  (apply Free.walk_quiet rfl rfl; (intro w' hg hf; clear hf; go_simp <;> exact rfl))
  refine Free.walk_nil ?_
  intro w11 hg hf
  have hkR := Lib.hid (hg.to ((Keeps.refl [] w10).drew) (fun b h => .inr (FdT_lowA h)))
  clear hf hg
  have t11 := Lib.hid (t10.out.keeps hkR.out)
  have hR11 := Lib.hid (hR10.out.keeps hkR.out)
  have hk11 := Lib.hid (hk10.out.trans hkR.out)
  clear t10 hR10 hk10 hkR hfd3 f0 f1
  go_frame
  go_wp2_with fail
  refine (hl4.out w11 t11.out).mono ?_
  rintro e w12 ⟨v12, rfl, hO12, k12⟩
  have hk12 := Lib.hid (hk11.out.trans k12)
  have hS12 := hO12.r
  obtain ⟨a12, c12, rfl⟩ := hO12.form
  rw [hLn.out] at hS12 ⊢
  have hsm := sameE_c w12 _ _ _ _ hS12 (hR11.out.keeps k12)
  rw [decide_eq_true rfl] at hsm
  replace hsm := Lib.hid hsm
  clear hO12 hS12 k12 hR11 hk11 t11 hl4
  go_wp2_with fail
  refine hsm.out.mono ?_
  rintro e w13 ⟨rfl, k13⟩
  have hk13 := Lib.hid (hk12.out.trans k13)
  clear hsm k13 hk12
  go_wp2_with fail
  refine (haw.out _).mono ?_
  rintro e w14 ⟨rfl, hk14⟩
  replace hk14 := Lib.hid hk14
  go_wp2
  go_ret
  exact ⟨rfl, hk13.out.trans hk14.out⟩
end Go.Proofs.Ytblaaafpglomnaa
