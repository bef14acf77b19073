/- Texts that the laws lean on, in the order in which they build. A tracer and the specification's value side by side. The law's step: what the tracer itself does. (Printed by mkuoc.py.) What holds of a tracer after a step (plain). The specification's Open and Aim. (Printed by mkurf.py.) append(append([]E{}, ..), x) in one region that draws its order and stores the result in a cell. Of whatever program. -/
import Derived.Test.YtpobepninifenaaGreatS11
set_option linter.unusedVariables false
set_option linter.unusedSimpArgs false
namespace Go.Proofs.YtpobepninifenaaGreat
open Go Go.RowKit

theorem RefPost.t {w w' : World} {B bt bm : Nat} {vo vh vg : Value} {t : Tr} {m : Int} {e : Ending} (hi : t.Inv) (h : RefPost w B bt bm vo vh vg t m e w') :
    e = .returned (.int .i64 (t.refuseT m).2) ∧ TrM w' B bt bm vo vh vg (t.refuseT m).1 ∧ Mv (ownT bt bm vo vh vg) (ownT bt bm vo vh vg) w w' := by
  obtain ⟨r, t', rfl, hT, hM, hc⟩ := h
  rcases hc with ⟨h1, rfl, rfl⟩ | ⟨h1, P, Y, p, hY, hP, hget, h2⟩
  · unfold Tr.refuseT
    rw [if_pos h1]
    exact ⟨rfl, hT, hM⟩
  · have hg : t.clm[t.ag.length]? = some p := by rw [← Tr.clm_eq hi hY hP]; exact hget
    unfold Tr.refuseT
    rw [if_neg (by simp [h1]), hg]
    simp only
    rcases h2 with ⟨h3, rfl, rfl⟩ | ⟨h3, rfl, rfl⟩
    · rw [if_pos h3]; exact ⟨rfl, hT, hM⟩
    · rw [if_neg (by simp [h3])]; exact ⟨rfl, hT, hM⟩
/-- The program's tracer and the specification's value say the same tracer and share no block; the value lies in none of P either. -/
structure TB (P : List Nat) (w : World) (B bp bm : Nat) (vc : Value) (A : List AT) (x : RtV) (T : Tc) : Prop where
  m : TcM w B bp bm vc A T
  r : RtR (P ++ ownTc bp bm vc A) w x T
  pl : ∀ b ∈ P, b < w.heap.size
theorem TB.keeps {P : List Nat} {w w' : World} {B bp bm : Nat} {vc : Value} {A : List AT} {x : RtV} {T : Tc} (h : TB P w B bp bm vc A x T) (hk : Keeps [] w w') : TB P w' B bp bm vc A x T := ⟨h.m.keeps hk, h.r.keeps hk, fun b hb => Nat.lt_of_lt_of_le (h.pl b hb) hk.size⟩
theorem TB.own {P : List Nat} {w : World} {B bp bm : Nat} {vc : Value} {A : List AT} {x : RtV} {T : Tc} (h : TB P w B bp bm vc A x T) : ∀ b ∈ P ++ ownTc bp bm vc A, b < w.heap.size := fun b hb => by
  rcases List.mem_append.1 hb with e | e
  · exact h.pl b e
  · exact (h.m.tag e).1
/-- A block Z more, that nothing of it lies in. -/
theorem TB.withZ {P : List Nat} {w : World} {B bp bm : Nat} {vc : Value} {A : List AT} {x : RtV} {T : Tc} (h : TB P w B bp bm vc A x T) {Z : Nat} (hZ : w.heap.size ≤ Z) : RtR (Z :: (P ++ ownTc bp bm vc A)) w x T := h.r.sub (fun b hb hl => by
  simp only [List.mem_cons] at hb
  rcases hb with e | e
  · omega
  · exact e)
theorem RtR.mvP {P O O' : List Nat} {w w' : World} {x : RtV} {T : Tc} (h : RtR (P ++ O) w x T) (hM : Mv O O' w w') (ht : ∀ b ∈ O, OwnTag w b) : RtR (P ++ O') w' x T := by
  obtain ⟨X, h1, h2, h3, h4⟩ := h.ac
  obtain ⟨Y, g1, g2, g3, g4⟩ := h.cs
  have hs := hM.k.size
  have hn : ∀ b, b < w.heap.size ∧ b ∉ P ++ O → b < w'.heap.size ∧ b ∉ P ++ O' := fun b hb => ⟨by omega, fun hm => by
    rcases List.mem_append.1 hm with e | e
    · exact hb.2 (List.mem_append_left _ e)
    · rcases hM.s b e with e | e
      · exact hb.2 (List.mem_append_right _ e)
      · omega⟩
  have hO : ∀ b, b ∉ P ++ O → b ∉ O := fun b hb hm => hb (List.mem_append_right _ hm)
  exact ⟨h.m, h.s, ⟨X, h1.keepS hM.k (fun b hb e => hO b (h2 b e).2 hb), fun b hb => hn b (h2 b hb), h3, fun k y t e1 e2 => ⟨(h4 k y t e1 e2).1.moved hM.k hM.i (fun b hb e => hO b ((h4 k y t e1 e2).2 b e).2 hb), fun b hb => hn b ((h4 k y t e1 e2).2 b hb)⟩⟩,
    ⟨Y, g1.keepS hM.k (fun b hb e => hO b (g2 b e).2 hb), fun b hb => hn b (g2 b hb), g3, fun k y c e1 e2 => ⟨(g4 k y c e1 e2).1.keepS hM.k hM.i ht (fun b hb => hO b ((g4 k y c e1 e2).2 b hb).2), fun b hb => hn b ((g4 k y c e1 e2).2 b hb)⟩⟩⟩
/-- The specification's step, then the program's, then a store into a block of the step's own. -/
theorem TB.fin {P : List Nat} {w w1 w2 w3 wE : World} {B bp bm Z : Nat} {vc vc' : Value} {A A' : List AT} {x x' : RtV} {T T' : Tc} {cs : Array Value} (h : TB P w B bp bm vc A x T) (k1 : Keeps [] w w1) (hR : RtR (Z :: (P ++ ownTc bp bm vc A)) w1 x' T')
    (k2 : Keeps [] w1 w2) (hT : TcM w3 B bp bm vc' A' T') (hM : Mv (ownTc bp bm vc A) (ownTc bp bm vc' A') w2 w3) (k3 : Keeps [Z] w3 wE) (hZ : w.heap.size ≤ Z) (hZt : w3.heap[Z]? = some (.cells cs tRc (0, 0))) :
    TB P wE B bp bm vc' A' x' T' ∧ Mv (ownTc bp bm vc A) (ownTc bp bm vc' A') w wE := by
  have hm2 := h.m.keeps (k1.trans k2)
  have hR3 := RtR.mvP (P := Z :: P) (hR.keeps k2) hM (fun b hb => hm2.tag hb)
  have hne : ∀ (cs' : Array Value) (e : TypeId) (f : Nat × Nat), e ≠ tRc → w3.heap[Z]? ≠ some (Obj.cells cs' e f) := fun cs' e f he g => by rw [hZt] at g; cases g; exact he rfl
  have hi3 : KI w3 wE := k3.ki (fun b hb cs' f e => by simp only [List.mem_singleton] at hb; subst hb; exact hne _ _ _ (by decide) e)
  refine ⟨⟨hT.keepT k3 hZt (by decide) (by decide), (hR3.keepO k3 (fun b hb => ?_)).sub (fun b hb _ => List.mem_cons_of_mem _ hb), fun b hb => Nat.lt_of_lt_of_le (h.pl b hb) (Nat.le_trans (k1.trans k2).size (Nat.le_trans hM.k.size k3.size))⟩, ?_⟩
  · simp only [List.mem_singleton] at hb
    subst hb
    exact ⟨by simp, fun cs' f => ⟨hne _ _ _ (by decide), hne _ _ _ (by decide), hne _ _ _ (by decide)⟩⟩
  · have hm : Mv (ownTc bp bm vc A) (ownTc bp bm vc' A') w w3 := (Mv.nil (k1.trans k2)).trans hM
    exact ⟨hm.k.fresh k3 (fun b hb => by simp only [List.mem_singleton] at hb; subst hb; exact .inr hZ), hm.i.trans hi3, hm.s⟩
def opV5 (o : Op5) (s : Option Addr × Nat × Nat) (y : AnV) : Value := .agg #[.int .i64 o.k, .int .i64 o.i, .int .i64 o.n, slv s, .int .i64 y.m, .int .i64 y.ow, .int .u64 y.n, .int .i64 y.ep, .bool y.kn, .bool y.rt, .int .i64 y.lu, y.v, .int .i64 o.id.1, .int .i64 o.id.2]
def StepPost5 (P : List Nat) (w : World) (B bp bm : Nat) (vc : Value) (A : List AT) (o : Op5) (T : Tc) (e : Ending) (w' : World) : Prop :=
  ∃ x' vc' A', e = .returned (.tuple #[rtV x', .bool true]) ∧ TB P w' B bp bm vc' A' x' (o.step T) ∧ Mv (ownTc bp bm vc A) (ownTc bp bm vc' A') w w'
end Go.Proofs.YtpobepninifenaaGreat

namespace Go.Proofs.YtpobepninifenaaGreat
open Go Go.RowKit

set_option maxRecDepth 100000 in
set_option maxHeartbeats 20000000 in
theorem step0_c (P : List Nat) (w : World) (B0 bp bm : Nat) (vc : Value) (A : List AT) (x : RtV) (T : Tc) (n k0 : Nat) (h : TB P w B0 bp bm vc A x T) (ho : T.Ok n k0) (hn : n ≤ 90) (hk0 : k0 ≤ 9000) (hm : W64 T.m) (o : Op5) (s : Option Addr × Nat × Nat) (y : AnV)
    (hS : Sms w (slv s) o.S) (hy : InR w y o.a) (hF : o.Fit) (hlS : o.S.length ≤ 4) (hlI : o.a.ins.length ≤ 4) (hsS : o.S ≠ [] → ∀ b, (slv s).ownBlock = some b → b < B0) (hsI : ∀ b, o.a.ins ≠ [] → y.v.ownBlock = some b → b < B0) (hk : o.k = 0) :
    Calls Tryz.prog 12 #[ptrV bp, rtV x, opV5 o s y] w (StepPost5 P w B0 bp bm vc A o T) := by
  have hown := h.own
  obtain ⟨B, hB⟩ : ∃ B, w.heap.size = B := ⟨_, rfl⟩
  have hZs := h.withZ (Z := B + 1 + 1) (by omega)
  obtain ⟨x0, x1, ⟨x2, x3, x4⟩, ⟨x5, x6, x7⟩⟩ := x
  obtain ⟨s0, s1, s2⟩ := s
  obtain ⟨y0, y1, y2, y3, y4, y5, y6, y7, y8, y9⟩ := y
  obtain ⟨ok, oi, on, oS, oa, ⟨id0, id1⟩⟩ := o
  simp only at hk hlS hlI hS hy
  subst hk
  obtain ⟨hbX, hbO, hbZ, hkW, hzW⟩ := blks3 w (.cells #[.int .i64 x0, .int .i64 x1, .slice x2 x3 x4, .slice x5 x6 x7] tRc) (.cells #[.int .i64 0, .int .i64 oi, .int .i64 on, .slice s0 s1 s2, .int .i64 y0, .int .i64 y1, .int .u64 y2, .int .i64 y3, .bool y4, .bool y5, .int .i64 y6, .slice y7 y8 y9, .int .i64 id0, .int .i64 id1] tO5) (.cells #[.int .i64 0, .int .i64 0, .slice none 0 0, .slice none 0 0] tRc)

  have hstep : Op5.step ⟨0, oi, on, oS, oa, (id0, id1)⟩ T = T.start oS := by unfold Op5.step; rw [if_pos rfl]
  have hspec := fun (W : World) (hk : Keeps [] w W) (hZW : B + 1 + 1 < W.heap.size) => rstart_c ((B + 1 + 1) :: (P ++ ownTc bp bm vc A)) W _ T oS (.slice s0 s1 s2) (hZs.keeps hk) (fun b hb => by
    simp only [List.mem_cons] at hb
    rcases hb with e | e
    · omega
    · have h1 := hown b e; have h2 := hk.size; omega) (hS.keeps hk) hF.S n k0 ho (by omega)
  have hprog := fun (W : World) (hk : Keeps [] w W) => tstart_c W B0 bp bm vc A T n k0 (h.m.keeps hk) ho oS (.slice s0 s1 s2) (hS.keeps hk) hF.S hm (by omega) (fun hne b hb hm => by have h1 := hsS hne b hb; have h2 := h.m.ge hm; omega)
  simp only [rtV, slv] at hspec
  simp only [rtV, slv, opV5, AnV.v, ptrV] at hprog ⊢
  replace hspec := Lib.hid hspec
  replace hprog := Lib.hid hprog
  replace hstep := Lib.hid hstep
  replace h := Lib.hid h
  clear hS hy hF hsS hsI ho hn hk0 hm hlS hlI
  go_enter Tryz.func12, Tryz.ntmps12

  go_upto_region 1 with fail
  generalize (((w.alloc (.cells #[.int .i64 x0, .int .i64 x1, .slice x2 x3 x4, .slice x5 x6 x7] tRc)).alloc (.cells #[.int .i64 0, .int .i64 oi, .int .i64 on, .slice s0 s1 s2, .int .i64 y0, .int .i64 y1, .int .u64 y2, .int .i64 y3, .bool y4, .bool y5, .int .i64 y6, .slice y7 y8 y9, .int .i64 id0, .int .i64 id1] tO5)).alloc (.cells #[.int .i64 0, .int .i64 0, .slice none 0 0, .slice none 0 0] tRc)) = W at *
  rw [hB] at hbX hbO hbZ hzW
  obtain ⟨z0, z1, z2, z3, zf, zl⟩ := cl4 hbX
  obtain ⟨r0, r1, r2, r3, r4, r5, r6, r7, r8, r9, r10, r11, r12, r13, rf, rl⟩ := cl14 hbO
  replace hB := Lib.hid hB
  replace hzW := Lib.hid hzW
  replace hbX := Lib.hid hbX
  replace hbO := Lib.hid hbO
  replace hbZ := Lib.hid hbZ
  replace hkW := Lib.hid hkW
  replace hZs := Lib.hid hZs
  replace hown := Lib.hid hown

  unfold StepPost5
  have hWz : B + 1 + 1 < W.heap.size := by have h1 := hzW.out; have h2 := hB.out; omega
  have hcs := hspec.out W hkW.out hWz
  replace hcs := Lib.hid hcs
  clear hspec hWz
  go_wp2_with fail
  refine hcs.out.mono ?_
  rintro e w5 ⟨xs, vq, rfl, hR5, hvq, hk5⟩
  clear hcs
  obtain ⟨qa, qc, rfl⟩ := hvq.form
  obtain ⟨QN, hQN⟩ : ∃ n, (T.startIds oS).length = n := ⟨_, rfl⟩
  rw [hQN] at hvq ⊢
  replace hvq := Lib.hid hvq
  replace hQN := Lib.hid hQN
  obtain ⟨u0, u1, ⟨u2, u3, u4⟩, ⟨u5, u6, u7⟩⟩ := xs
  simp only [rtV, slv]
  have hk5M := hk5.alloc (.cells #[.int .i64 u0, .int .i64 u1, .slice u2 u3 u4, .slice u5 u6 u7] tRc)
  have hbV := heap_alloc_new w5 (.cells #[.int .i64 u0, .int .i64 u1, .slice u2 u3 u4, .slice u5 u6 u7] tRc)
  have hk25 := ((Keeps.refl [] w5).alloc (.cells #[.int .i64 u0, .int .i64 u1, .slice u2 u3 u4, .slice u5 u6 u7] tRc)).drew
  have hs5 := hk5.size
  have hkw5 := hkW.out.trans hk5
  replace hk5M := Lib.hid hk5M
  replace hbV := Lib.hid hbV
  replace hR5 := Lib.hid hR5
  replace hk25 := Lib.hid hk25
  replace hkw5 := Lib.hid hkw5
  clear hk5
  go_upto_region 3 with fail
  generalize (w5.alloc (.cells #[.int .i64 u0, .int .i64 u1, .slice u2 u3 u4, .slice u5 u6 u7] tRc)) = W5 at *
  obtain ⟨XV, hXV⟩ : ∃ X, w5.heap.size = X := ⟨_, rfl⟩
  rw [hXV] at hbV hs5 ⊢
  have hkd := hk5M.out.drew
  have hbVd : W5.drew.heap[XV]? = _ := hbV.out
  have hZd : W5.drew.heap[B + 1 + 1]? = _ := (hk5M.out.block _ (lt_of_blk hbZ.out) (by simp)).trans hbZ.out
  have hOd : W5.drew.heap[B + 1]? = _ := (hk5M.out.block _ (lt_of_blk hbO.out) (by simp)).trans hbO.out
  have hsV : B + 1 + 1 < XV := by have := hzW.out; omega
  replace hkd := hkW.out.trans hkd
  clear hs5
  clear z0 z1 z2 z3 zf zl r0 r1 r2 r3 r4 r5 r6 r7 r8 r9 r10 r11 r12 r13 rf rl
  obtain ⟨m0, m1, m2, m3, mf, ml⟩ := cl4 hbVd
  obtain ⟨r0, r1, r2, r3, r4, r5, r6, r7, r8, r9, r10, r11, r12, r13, rf, rl⟩ := cl14 hOd
  have hpr := hprog.out W5.drew hkd
  have hZl := lt_of_blk hZd
  have hm5 := h.out.m.keeps hkd
  replace hXV := Lib.hid hXV
  replace hZd := Lib.hid hZd
  replace hkd := Lib.hid hkd
  replace hpr := Lib.hid hpr
  replace hm5 := Lib.hid hm5
  have hvq5 := hvq.out.keeps hk25.out
  replace hvq5 := Lib.hid hvq5
  clear hbVd hOd hk5M hprog
  refine Free.wp_region_chain (fun i => i == 4 || i == 6 || i == 7) (fun i => true) (fun _ b => b < B ∨ b = B + 1 + 1) (by kernel_rfl) (by kernel_rfl) (by kernel_rfl) ?_
  generalize W5.drew = wd at *
  (repeat (first | (apply Free.cw_pure rfl rfl; (intro w'; go_simp <;> exact rfl); go_frame) | (apply Free.cw_steady rfl rfl rfl; (intro w' hS; have q0 := Free.sx_cell hS m0 (fun _ _ hT => by rcases hT with hT | hT <;> omega); have q1 := Free.sx_cell hS m1 (fun _ _ hT => by rcases hT with hT | hT <;> omega); have q2 := Free.sx_cell hS m2 (fun _ _ hT => by rcases hT with hT | hT <;> omega); have q3 := Free.sx_cell hS m3 (fun _ _ hT => by rcases hT with hT | hT <;> omega); have q4 := Free.sx_cell hS r3 (fun _ _ hT => by rcases hT with hT | hT <;> omega); go_simp <;> exact rfl); go_frame) | (refine Free.cw_skip rfl ?_; go_frame)))
  refine Free.cw_loud rfl rfl (fun K hK => ?_)
  go_wp2_with fail
  refine hpr.out.mono ?_
  rintro e w6 ⟨v6, A', rfl, hv6, hT6, hM6⟩
  refine hK _ _ rfl (Free.KeepsP.of hM6.k (fun b hb => .inl (by have h1 := hown.out b (List.mem_append_right _ hb); have h2 := hB.out; omega))) ?_
  clear hK K hpr
  have hZ6 := (hM6.k.block _ hZl (fun hm => by have h1 := hown.out _ (List.mem_append_right _ hm); have h2 := hB.out; omega)).trans hZd.out
  have hvq6 : shId.R w6 (.slice qa QN qc) (T.startIds oS) := (hvq5.out.keepS hM6.k (fun b hb e => by
    obtain ⟨cs, hc⟩ := hvq5.out.tag b e
    exact (hm5.out.tag hb).not (by decide) cs _ hc)).r
  have hsn := sameIDs_c w6 v6 (.slice qa QN qc) _ _ hv6.r hvq6
  rw [decide_eq_true rfl] at hsn
  replace hsn := Lib.hid hsn
  clear hv6 hvq6
  (repeat (apply Free.cw_pure rfl rfl; (intro w'; go_simp <;> exact rfl); go_frame))
  refine Free.cw_loud rfl rfl (fun K hK => ?_)
  go_wp2_with fail
  refine hsn.out.mono ?_
  rintro e w7 ⟨rfl, hk7⟩
  refine hK _ _ rfl (Free.KeepsP.of hk7 (by simp)) ?_
  clear hK K hsn
  replace hZ6 := (hk7.block _ (lt_of_blk hZ6) (by simp)).trans hZ6
  replace hT6 := hT6.keeps hk7
  replace hM6 := hM6.trans (Mv.nil hk7)
  obtain ⟨v0, v1, v2, v3, vf, vl⟩ := cl4 hZ6
  replace hZ6 := Lib.hid hZ6
  replace hT6 := Lib.hid hT6
  replace hM6 := Lib.hid hM6
  (repeat (apply Free.cw_pure rfl rfl; (intro w'; go_simp <;> exact rfl); go_frame))
  refine Free.cw_loud rfl rfl (fun K hK => ?_)
  go_wp2
  obtain ⟨g1, g2⟩ := sc4 (.int .i64 u0) (.int .i64 u1) (.slice u2 u3 u4) (.slice u5 u6 u7) hZ6
  refine hK _ _ rfl (Free.KeepsP.of g2 (fun b hb => .inr (by simpa using hb))) ?_
  clear hK K
  obtain ⟨f1, f2⟩ := h.out.fin hkw5.out hR5.out hk25.out hT6.out hM6.out g2 (by have := hB.out; omega) hZ6.out
  replace g1 := Lib.hid g1
  replace f1 := Lib.hid f1
  replace f2 := Lib.hid f2
  clear g2 hZl
  (repeat (apply Free.cw_pure rfl rfl; (intro w'; go_simp <;> exact rfl); go_frame))
  refine Free.cw_nil ?_
  go_wp2
  refine bodyPost_ret (results_rt2 rfl _ _ _ _ _ _ _ _ _ rfl g1.out) rfl ?_
  exact ⟨⟨u0, u1, (u2, u3, u4), (u5, u6, u7)⟩, vc, A', rfl, by rw [hstep.out]; exact f1.out, f2.out⟩

theorem errF_eq (o : Option Nat) : (if o = none then (6 : Int) else 0) = errF o := by cases o <;> rfl
set_option maxRecDepth 100000 in
set_option maxHeartbeats 20000000 in
theorem step6_c (P : List Nat) (w : World) (B0 bp bm : Nat) (vc : Value) (A : List AT) (x : RtV) (T : Tc) (n k0 : Nat) (h : TB P w B0 bp bm vc A x T) (ho : T.Ok n k0) (hn : n ≤ 90) (hk0 : k0 ≤ 9000) (hm : W64 T.m) (o : Op5) (s : Option Addr × Nat × Nat) (y : AnV)
    (hS : Sms w (slv s) o.S) (hy : InR w y o.a) (hF : o.Fit) (hlS : o.S.length ≤ 4) (hlI : o.a.ins.length ≤ 4) (hsS : o.S ≠ [] → ∀ b, (slv s).ownBlock = some b → b < B0) (hsI : ∀ b, o.a.ins ≠ [] → y.v.ownBlock = some b → b < B0) (hk : o.k = 6) :
    Calls Tryz.prog 12 #[ptrV bp, rtV x, opV5 o s y] w (StepPost5 P w B0 bp bm vc A o T) := by
  have hown := h.own
  obtain ⟨B, hB⟩ : ∃ B, w.heap.size = B := ⟨_, rfl⟩
  have hZs := h.withZ (Z := B + 1 + 1) (by omega)
  obtain ⟨x0, x1, ⟨x2, x3, x4⟩, ⟨x5, x6, x7⟩⟩ := x
  obtain ⟨s0, s1, s2⟩ := s
  obtain ⟨y0, y1, y2, y3, y4, y5, y6, y7, y8, y9⟩ := y
  obtain ⟨ok, oi, on, oS, oa, ⟨id0, id1⟩⟩ := o
  simp only at hk hlS hlI hS hy
  subst hk
  obtain ⟨hbX, hbO, hbZ, hkW, hzW⟩ := blks3 w (.cells #[.int .i64 x0, .int .i64 x1, .slice x2 x3 x4, .slice x5 x6 x7] tRc) (.cells #[.int .i64 6, .int .i64 oi, .int .i64 on, .slice s0 s1 s2, .int .i64 y0, .int .i64 y1, .int .u64 y2, .int .i64 y3, .bool y4, .bool y5, .int .i64 y6, .slice y7 y8 y9, .int .i64 id0, .int .i64 id1] tO5) (.cells #[.int .i64 0, .int .i64 0, .slice none 0 0, .slice none 0 0] tRc)
  have hstep : Op5.step ⟨6, oi, on, oS, oa, (id0, id1)⟩ T = T.finish (id0, id1) := by unfold Op5.step; rw [if_neg (by simp), if_pos rfl]
  have hspec := fun (W : World) (hk : Keeps [] w W) (hZW : B + 1 + 1 < W.heap.size) => rfinish_c ((B + 1 + 1) :: (P ++ ownTc bp bm vc A)) W _ T (id0, id1) (hZs.keeps hk) (fun b hb => by
    simp only [List.mem_cons] at hb
    rcases hb with e | e
    · omega
    · have h1 := hown b e; have h2 := hk.size; omega) (by have := ho.al; omega) (by have := ho.cl; omega) (fun t ht => by
    obtain ⟨a, ha, rfl⟩ := List.mem_map.1 (h.m.ac ▸ ht)
    have hb := ho.bnd _ ht
    exact ⟨(h.m.tr a ha).inv, by have := hb.qs; omega, hb.rf⟩)
  have hprog : ∀ (W : World), Keeps [] w W → Calls Tryz.prog 22 #[ptrV bp, ipV (id0, id1)] W fun e w' => ∃ vc' A', e = .returned (.int .i64 (errF (T.find (id0, id1)))) ∧ TcM w' B0 bp bm vc' A' (T.finish (id0, id1)) ∧ Mv (ownTc bp bm vc A) (ownTc bp bm vc' A') W w' := fun W hk =>
    (tfinish_c W B0 bp bm vc A T n k0 (h.m.keeps hk) ho (by omega) (by omega) (id0, id1) hF.id).mono fun e w' ⟨vc', A', h1, h2, h3⟩ => ⟨vc', A', by rw [h1, errF_eq], h2, h3⟩
  unfold RFinPost at hspec
  obtain ⟨E, hE⟩ : ∃ E, errF (T.find (id0, id1)) = E := ⟨_, rfl⟩
  rw [hE] at hspec hprog
  simp only [rtV, ipV, slv] at hspec
  simp only [rtV, ipV, slv, opV5, AnV.v, ptrV] at hprog ⊢
  replace hspec := Lib.hid hspec
  replace hprog := Lib.hid hprog
  replace hstep := Lib.hid hstep
  replace hE := Lib.hid hE
  replace h := Lib.hid h
  clear hS hy hF hsS hsI ho hn hk0 hm hlS hlI
  go_enter Tryz.func12, Tryz.ntmps12

  go_upto_region 1 with fail
  generalize (((w.alloc (.cells #[.int .i64 x0, .int .i64 x1, .slice x2 x3 x4, .slice x5 x6 x7] tRc)).alloc (.cells #[.int .i64 6, .int .i64 oi, .int .i64 on, .slice s0 s1 s2, .int .i64 y0, .int .i64 y1, .int .u64 y2, .int .i64 y3, .bool y4, .bool y5, .int .i64 y6, .slice y7 y8 y9, .int .i64 id0, .int .i64 id1] tO5)).alloc (.cells #[.int .i64 0, .int .i64 0, .slice none 0 0, .slice none 0 0] tRc)) = W at *
  rw [hB] at hbX hbO hbZ hzW
  obtain ⟨z0, z1, z2, z3, zf, zl⟩ := cl4 hbX
  obtain ⟨r0, r1, r2, r3, r4, r5, r6, r7, r8, r9, r10, r11, r12, r13, rf, rl⟩ := cl14 hbO
  replace hB := Lib.hid hB
  replace hzW := Lib.hid hzW
  replace hbX := Lib.hid hbX
  replace hbO := Lib.hid hbO
  replace hbZ := Lib.hid hbZ
  replace hkW := Lib.hid hkW
  replace hZs := Lib.hid hZs
  replace hown := Lib.hid hown

  unfold StepPost5
  have hWz : B + 1 + 1 < W.heap.size := by have h1 := hzW.out; have h2 := hB.out; omega
  have hcs := hspec.out W hkW.out hWz
  replace hcs := Lib.hid hcs
  clear hspec hWz
  go_wp2_with fail
  refine hcs.out.mono ?_
  rintro e w5 ⟨xs, rfl, hR5, hk5⟩
  clear hcs
  obtain ⟨u0, u1, ⟨u2, u3, u4⟩, ⟨u5, u6, u7⟩⟩ := xs
  simp only [rtV, slv]
  have hk5M := hk5.alloc (.cells #[.int .i64 u0, .int .i64 u1, .slice u2 u3 u4, .slice u5 u6 u7] tRc)
  have hbV := heap_alloc_new w5 (.cells #[.int .i64 u0, .int .i64 u1, .slice u2 u3 u4, .slice u5 u6 u7] tRc)
  have hk25 := ((Keeps.refl [] w5).alloc (.cells #[.int .i64 u0, .int .i64 u1, .slice u2 u3 u4, .slice u5 u6 u7] tRc)).drew
  have hs5 := hk5.size
  have hkw5 := hkW.out.trans hk5
  replace hk5M := Lib.hid hk5M
  replace hbV := Lib.hid hbV
  replace hR5 := Lib.hid hR5
  replace hk25 := Lib.hid hk25
  replace hkw5 := Lib.hid hkw5
  clear hk5
  go_upto_region 6 with fail
  generalize (w5.alloc (.cells #[.int .i64 u0, .int .i64 u1, .slice u2 u3 u4, .slice u5 u6 u7] tRc)) = W5 at *
  obtain ⟨XV, hXV⟩ : ∃ X, w5.heap.size = X := ⟨_, rfl⟩
  rw [hXV] at hbV hs5 ⊢
  have hkd := hk5M.out.drew
  have hbVd : W5.drew.heap[XV]? = _ := hbV.out
  have hZd : W5.drew.heap[B + 1 + 1]? = _ := (hk5M.out.block _ (lt_of_blk hbZ.out) (by simp)).trans hbZ.out
  have hOd : W5.drew.heap[B + 1]? = _ := (hk5M.out.block _ (lt_of_blk hbO.out) (by simp)).trans hbO.out
  have hsV : B + 1 + 1 < XV := by have := hzW.out; omega
  replace hkd := hkW.out.trans hkd
  clear hs5
  clear z0 z1 z2 z3 zf zl r0 r1 r2 r3 r4 r5 r6 r7 r8 r9 r10 r11 r12 r13 rf rl
  obtain ⟨m0, m1, m2, m3, mf, ml⟩ := cl4 hbVd
  obtain ⟨r0, r1, r2, r3, r4, r5, r6, r7, r8, r9, r10, r11, r12, r13, rf, rl⟩ := cl14 hOd
  have hpr := hprog.out W5.drew hkd
  have hZl := lt_of_blk hZd
  have hm5 := h.out.m.keeps hkd
  replace hXV := Lib.hid hXV
  replace hZd := Lib.hid hZd
  replace hkd := Lib.hid hkd
  replace hpr := Lib.hid hpr
  replace hm5 := Lib.hid hm5

  clear hbVd hOd hk5M hprog
  refine Free.wp_region_chain (fun i => i == 4 || i == 7) (fun i => true) (fun _ b => b < B ∨ b = B + 1 + 1) (by kernel_rfl) (by kernel_rfl) (by kernel_rfl) ?_
  generalize W5.drew = wd at *
  (repeat (first | (apply Free.cw_pure rfl rfl; (intro w'; go_simp <;> exact rfl); go_frame) | (apply Free.cw_steady rfl rfl rfl; (intro w' hS; have q0 := Free.sx_cell hS m0 (fun _ _ hT => by rcases hT with hT | hT <;> omega); have q1 := Free.sx_cell hS m1 (fun _ _ hT => by rcases hT with hT | hT <;> omega); have q2 := Free.sx_cell hS m2 (fun _ _ hT => by rcases hT with hT | hT <;> omega); have q3 := Free.sx_cell hS m3 (fun _ _ hT => by rcases hT with hT | hT <;> omega); have q4 := Free.sx_cell hS r12 (fun _ _ hT => by rcases hT with hT | hT <;> omega); have q5 := Free.sx_cell hS r13 (fun _ _ hT => by rcases hT with hT | hT <;> omega); go_simp <;> exact rfl); go_frame) | (refine Free.cw_skip rfl ?_; go_frame)))
  refine Free.cw_loud rfl rfl (fun K hK => ?_)
  go_wp2_with fail
  refine hpr.out.mono ?_
  rintro e w6 ⟨vc', A', rfl, hT6, hM6⟩
  refine hK _ _ rfl (Free.KeepsP.of hM6.k (fun b hb => .inl (by have h1 := hown.out b (List.mem_append_right _ hb); have h2 := hB.out; omega))) ?_
  clear hK K hpr
  have hZ6 := (hM6.k.block _ hZl (fun hm => by have h1 := hown.out _ (List.mem_append_right _ hm); have h2 := hB.out; omega)).trans hZd.out

  obtain ⟨v0, v1, v2, v3, vf, vl⟩ := cl4 hZ6
  replace hZ6 := Lib.hid hZ6
  replace hT6 := Lib.hid hT6
  replace hM6 := Lib.hid hM6
  (repeat (apply Free.cw_pure rfl rfl; (intro w'; go_simp <;> exact rfl); go_frame))
  refine Free.cw_loud rfl rfl (fun K hK => ?_)
  go_wp2
  obtain ⟨g1, g2⟩ := sc4 (.int .i64 u0) (.int .i64 u1) (.slice u2 u3 u4) (.slice u5 u6 u7) hZ6
  refine hK _ _ rfl (Free.KeepsP.of g2 (fun b hb => .inr (by simpa using hb))) ?_
  clear hK K
  obtain ⟨f1, f2⟩ := h.out.fin hkw5.out hR5.out hk25.out hT6.out hM6.out g2 (by have := hB.out; omega) hZ6.out
  replace g1 := Lib.hid g1
  replace f1 := Lib.hid f1
  replace f2 := Lib.hid f2
  clear g2 hZl
  (repeat (apply Free.cw_pure rfl rfl; (intro w'; go_simp <;> exact rfl); go_frame))
  refine Free.cw_nil ?_
  go_wp2
  refine bodyPost_ret (results_rt2 rfl _ _ _ _ _ _ _ _ _ rfl g1.out) rfl ?_
  exact ⟨⟨u0, u1, (u2, u3, u4), (u5, u6, u7)⟩, vc', A', rfl, by rw [hstep.out]; exact f1.out, f2.out⟩

set_option maxRecDepth 100000 in
set_option maxHeartbeats 20000000 in
theorem stepN_c (P : List Nat) (w : World) (B0 bp bm : Nat) (vc : Value) (A : List AT) (x : RtV) (T : Tc) (n k0 : Nat) (h : TB P w B0 bp bm vc A x T) (ho : T.Ok n k0) (hn : n ≤ 90) (hk0 : k0 ≤ 9000) (hm : W64 T.m) (o : Op5) (s : Option Addr × Nat × Nat) (y : AnV)
    (hS : Sms w (slv s) o.S) (hy : InR w y o.a) (hF : o.Fit) (hlS : o.S.length ≤ 4) (hlI : o.a.ins.length ≤ 4) (hsS : o.S ≠ [] → ∀ b, (slv s).ownBlock = some b → b < B0) (hsI : ∀ b, o.a.ins ≠ [] → y.v.ownBlock = some b → b < B0) (hk : o.k ≠ 0 ∧ o.k ≠ 6) (hno : o.k < 1 ∨ 6 < o.k ∨ o.i < 0 ∨ T.act.length = 0) :
    Calls Tryz.prog 12 #[ptrV bp, rtV x, opV5 o s y] w (StepPost5 P w B0 bp bm vc A o T) := by
  have hown := h.own
  obtain ⟨B, hB⟩ : ∃ B, w.heap.size = B := ⟨_, rfl⟩
  have hZs := h.withZ (Z := B + 1 + 1) (by omega)
  obtain ⟨x0, x1, ⟨x2, x3, x4⟩, ⟨x5, x6, x7⟩⟩ := x
  obtain ⟨s0, s1, s2⟩ := s
  obtain ⟨y0, y1, y2, y3, y4, y5, y6, y7, y8, y9⟩ := y
  obtain ⟨ok, oi, on, oS, oa, ⟨id0, id1⟩⟩ := o
  simp only at hk hlS hlI hS hy
  
  obtain ⟨hbX, hbO, hbZ, hkW, hzW⟩ := blks3 w (.cells #[.int .i64 x0, .int .i64 x1, .slice x2 x3 x4, .slice x5 x6 x7] tRc) (.cells #[.int .i64 ok, .int .i64 oi, .int .i64 on, .slice s0 s1 s2, .int .i64 y0, .int .i64 y1, .int .u64 y2, .int .i64 y3, .bool y4, .bool y5, .int .i64 y6, .slice y7 y8 y9, .int .i64 id0, .int .i64 id1] tO5) (.cells #[.int .i64 0, .int .i64 0, .slice none 0 0, .slice none 0 0] tRc)
  have hstep : Op5.step ⟨ok, oi, on, oS, oa, (id0, id1)⟩ T = T := by
    unfold Op5.step
    rw [if_neg hk.1, if_neg hk.2]
    by_cases hc : ok < 1 ∨ 6 < ok ∨ oi < 0
    · rw [if_pos hc]
    · rw [if_neg hc]
      have h0 : T.act = [] := List.length_eq_zero_iff.1 (by rcases hno with h | h | h | h; exact absurd (.inl h) hc; exact absurd (.inr (.inl h)) hc; exact absurd (.inr (.inr h)) hc; exact h)
      rw [h0]
      rfl
  have hx3 : x3 = T.act.length := by
    obtain ⟨XA, hXA, _, hXl, _⟩ := h.r.ac
    obtain ⟨_, _, e, _⟩ := hXA.form
    simp only [slv, Value.slice.injEq] at e
    rw [← hXl]; exact e.2.1
  rw [← hx3] at hno
  simp only at hno
  simp only [rtV, slv, opV5, AnV.v, ptrV]
  obtain ⟨hka, hkb⟩ := hk
  have hka2 : (ok == 0) = false := by simpa using hka
  have hkb2 : (ok == 6) = false := by simpa using hkb
  replace hstep := Lib.hid hstep
  replace h := Lib.hid h
  replace hno := Lib.hid hno
  replace hx3 := Lib.hid hx3
  clear hS hy hF hsS hsI ho hn hk0 hm hlS hlI
  go_enter Tryz.func12, Tryz.ntmps12

  go_upto_region 1 with fail
  generalize (((w.alloc (.cells #[.int .i64 x0, .int .i64 x1, .slice x2 x3 x4, .slice x5 x6 x7] tRc)).alloc (.cells #[.int .i64 ok, .int .i64 oi, .int .i64 on, .slice s0 s1 s2, .int .i64 y0, .int .i64 y1, .int .u64 y2, .int .i64 y3, .bool y4, .bool y5, .int .i64 y6, .slice y7 y8 y9, .int .i64 id0, .int .i64 id1] tO5)).alloc (.cells #[.int .i64 0, .int .i64 0, .slice none 0 0, .slice none 0 0] tRc)) = W at *
  rw [hB] at hbX hbO hbZ hzW
  obtain ⟨z0, z1, z2, z3, zf, zl⟩ := cl4 hbX
  obtain ⟨r0, r1, r2, r3, r4, r5, r6, r7, r8, r9, r10, r11, r12, r13, rf, rl⟩ := cl14 hbO
  replace hB := Lib.hid hB
  replace hzW := Lib.hid hzW
  replace hbX := Lib.hid hbX
  replace hbO := Lib.hid hbO
  replace hbZ := Lib.hid hbZ
  replace hkW := Lib.hid hkW
  replace hZs := Lib.hid hZs
  replace hown := Lib.hid hown

  unfold StepPost5
  obtain ⟨v0, v1, v2, v3, vf, vl⟩ := cl4 hbZ.out
  by_cases h1 : ok < 1
  · have h1b : decide (ok < 1) = true := by simpa using h1
    go_wp2
    obtain ⟨g1, g2⟩ := sc4 (.int .i64 x0) (.int .i64 x1) (.slice x2 x3 x4) (.slice x5 x6 x7) hbZ.out
    obtain ⟨f1, f2⟩ := h.out.fin hkW.out (hZs.out.keeps hkW.out) (Keeps.refl [] W) (h.out.m.keeps hkW.out) (Mv.nil (Keeps.refl [] W)) g2 (by have := hB.out; omega) hbZ.out
    refine bodyPost_ret (results_rt2 rfl _ _ _ _ _ _ _ _ _ rfl g1) rfl ?_
    exact ⟨⟨x0, x1, (x2, x3, x4), (x5, x6, x7)⟩, vc, A, rfl, by rw [hstep.out]; exact f1, f2⟩
  · have h1b : decide (ok < 1) = false := by simpa using h1
    by_cases h2 : 6 < ok
    · have h2b : decide (6 < ok) = true := by simpa using h2
      go_wp2
      obtain ⟨g1, g2⟩ := sc4 (.int .i64 x0) (.int .i64 x1) (.slice x2 x3 x4) (.slice x5 x6 x7) hbZ.out
      obtain ⟨f1, f2⟩ := h.out.fin hkW.out (hZs.out.keeps hkW.out) (Keeps.refl [] W) (h.out.m.keeps hkW.out) (Mv.nil (Keeps.refl [] W)) g2 (by have := hB.out; omega) hbZ.out
      refine bodyPost_ret (results_rt2 rfl _ _ _ _ _ _ _ _ _ rfl g1) rfl ?_
      exact ⟨⟨x0, x1, (x2, x3, x4), (x5, x6, x7)⟩, vc, A, rfl, by rw [hstep.out]; exact f1, f2⟩
    · have h2b : decide (6 < ok) = false := by simpa using h2
      by_cases h3 : oi < 0
      · have h3b : decide (oi < 0) = true := by simpa using h3
        go_wp2
        obtain ⟨g1, g2⟩ := sc4 (.int .i64 x0) (.int .i64 x1) (.slice x2 x3 x4) (.slice x5 x6 x7) hbZ.out
        obtain ⟨f1, f2⟩ := h.out.fin hkW.out (hZs.out.keeps hkW.out) (Keeps.refl [] W) (h.out.m.keeps hkW.out) (Mv.nil (Keeps.refl [] W)) g2 (by have := hB.out; omega) hbZ.out
        refine bodyPost_ret (results_rt2 rfl _ _ _ _ _ _ _ _ _ rfl g1) rfl ?_
        exact ⟨⟨x0, x1, (x2, x3, x4), (x5, x6, x7)⟩, vc, A, rfl, by rw [hstep.out]; exact f1, f2⟩
      · have h3b : decide (oi < 0) = false := by simpa using h3
        have h4 : x3 = 0 := by have := hno.out; omega
        subst h4
        go_wp2
        obtain ⟨g1, g2⟩ := sc4 (.int .i64 x0) (.int .i64 x1) (.slice x2 0 x4) (.slice x5 x6 x7) hbZ.out
        obtain ⟨f1, f2⟩ := h.out.fin hkW.out (hZs.out.keeps hkW.out) (Keeps.refl [] W) (h.out.m.keeps hkW.out) (Mv.nil (Keeps.refl [] W)) g2 (by have := hB.out; omega) hbZ.out
        refine bodyPost_ret (results_rt2 rfl _ _ _ _ _ _ _ _ _ rfl g1) rfl ?_
        exact ⟨⟨x0, x1, (x2, 0, x4), (x5, x6, x7)⟩, vc, A, rfl, by rw [hstep.out]; exact f1, f2⟩
end Go.Proofs.YtpobepninifenaaGreat

namespace Go.Proofs.YtpobepninifenaaGreat
open Go.RowKit

/-- Who it is. -/
def Tr.id3 (t : Tr) : Int × Int × T3 := (t.im, t.is, t.st)
theorem Tr.close_id (t : Tr) : t.close.id3 = t.id3 := by unfold Tr.close; split <;> rfl
theorem Tr.answer_id (t : Tr) (a : Ans) : (t.answer a).1.id3 = t.id3 := by
  unfold Tr.answer
  split
  · rfl
  split
  · rfl
  split
  · rfl
  split
  · rfl
  split
  · rfl
  · rw [Tr.close_id]; rfl
theorem Tr.queries_id (t : Tr) : t.queries.1.id3 = t.id3 := by unfold Tr.queries; split <;> rfl
theorem Tr.agreeT_id (t : Tr) (m : Int) : (t.agreeT m).1.id3 = t.id3 := by
  unfold Tr.agreeT
  split
  · rfl
  split
  · split <;> rfl
  · rfl
theorem Tr.refuseT_id (t : Tr) (m : Int) : (t.refuseT m).1.id3 = t.id3 := by
  unfold Tr.refuseT
  split
  · rfl
  split
  · split <;> rfl
  · rfl
theorem Tr.answer_two {t : Tr} {a : Ans} (h : (t.answer a).1.state = 2) : (t.answer a).1 = t := by
  revert h
  unfold Tr.answer
  split
  · exact fun _ => rfl
  rename_i h0
  have h0 : t.state = 0 := by simpa using h0
  split
  · exact fun _ => rfl
  split
  · intro h; simp at h
  split
  · intro h; simp at h
  split
  · intro h; simp at h
  · intro h
    unfold Tr.close at h
    split at h
    · simp at h
    · simp [Tr.put, Tr.take, h0] at h
theorem Tr.queries_clm (t : Tr) : t.queries.1.clm = t.clm ∧ t.queries.1.state = t.state := by
  unfold Tr.queries
  split
  · exact ⟨rfl, rfl⟩
  · exact ⟨Tr.clm_qs rfl, rfl⟩
theorem Tr.agreeT_two {t : Tr} {m : Int} (h2 : t.state = 2 → 0 < t.clm.length) (h : (t.agreeT m).1.state = 2) : 0 < (t.agreeT m).1.clm.length := by
  revert h
  unfold Tr.agreeT
  split
  · exact h2
  rename_i h1
  have h1 : t.state = 1 := by simpa using h1
  split
  · rename_i p hp
    split
    · exact fun h => h2 h
    · intro h
      have hlt : t.ag.length < t.clm.length := (List.getElem?_eq_some_iff.1 hp).1
      have hq : ∀ v : Tr, v.qs = t.qs → 0 < v.clm.length := fun v hv => by rw [Tr.clm_qs hv]; omega
      exact hq _ rfl
  · exact h2
theorem Tr.refuseT_two {t : Tr} {m : Int} (h2 : t.state = 2 → 0 < t.clm.length) (h : (t.refuseT m).1.state = 2) : 0 < (t.refuseT m).1.clm.length := by
  revert h
  unfold Tr.refuseT
  split
  · exact h2
  split
  · split
    · exact fun h => h2 h
    · intro h; simp at h
  · exact h2
theorem Tc.Ok.set' {T : Tc} {n k : Nat} (h : T.Ok n k) {i : Nat} (hi : i < T.act.length) {u : Tr} (he : u.id3 = T.act[i].id3) (hb : u.Bnd (n + 1)) (h4 : u.state = 2 → 0 < u.clm.length) : (T.setT i u).Ok (n + 1) k := by
  have e1 := (Prod.mk.inj he).1
  have e2 := (Prod.mk.inj (Prod.mk.inj he).2)
  exact h.set hi e1 e2.1 e2.2 hb h4
theorem aimQ_ins (a : Ans) (l : List Qn) (n : Int) : (aimQ a l n).ins = a.ins := by
  unfold aimQ
  split
  · split <;> rfl
  · rfl
theorem aimQ_fit {a : Ans} {t : Tr} {n : Int} (h : a.Fit) (hi : t.Inv) : (aimQ a (opens t.qs) n).Fit := by
  unfold aimQ
  split
  · split
    · rename_i q hq
      have hm := opens_mem (List.mem_of_getElem? hq)
      exact ⟨hi.ok _ hm, h.ep, h.lu, h.ins⟩
    · exact h
  · exact h
theorem Op5.step_ok {o : Op5} {T : Tc} {n k : Nat} (h : T.Ok n k) (hinv : ∀ t ∈ T.act, t.Inv) (hinv' : ∀ t ∈ (o.step T).act, t.Inv) (hS : o.S.length ≤ 4) (hI : o.a.ins.length ≤ 5) : (o.step T).Ok (n + 1) (k + 4) := by
  revert hinv'
  unfold Op5.step
  split
  · exact fun _ => (h.start o.S).mono (by omega) (by omega)
  split
  · exact fun _ => (h.finish hinv o.id).mono (Nat.le_refl _) (by omega)
  split
  · exact fun _ => h.mono (by omega) (by omega)
  split
  · exact fun _ => h.mono (by omega) (by omega)
  rename_i t ht
  obtain ⟨hi, he⟩ := List.getElem?_eq_some_iff.1 ht
  have hm : t ∈ T.act := he ▸ List.getElem_mem hi
  have hb := h.bnd t hm
  have hmem : ∀ u : Tr, u ∈ (T.setT (o.i % T.act.length).toNat u).act := fun u => List.mem_iff_getElem.2 ⟨_, by show _ < (T.act.set _ u).length; rw [List.length_set]; exact hi, by show (T.act.set _ u)[_]'_ = u; rw [List.getElem_set_self]⟩
  split
  · intro hinv'
    exact (h.set' hi (by rw [he]; exact Tr.answer_id _ _) (hb.answer (hinv t hm) (hinv' _ (hmem _)) (by unfold Op5.aim; rw [aimQ_ins]; exact hI)) (fun e => by have e2 := Tr.answer_two e; rw [e2] at e ⊢; exact h.two t hm e)).mono (Nat.le_refl _) (by omega)
  split
  · intro hinv'
    exact (h.set' hi (by rw [he]; exact Tr.queries_id _) hb.queries (fun e => by rw [t.queries_clm.2] at e; rw [t.queries_clm.1]; exact h.two t hm e)).mono (Nat.le_refl _) (by omega)
  split
  · intro hinv'
    exact (h.set' hi (by rw [he]; exact Tr.agreeT_id _ _) (hb.agree _) (fun e => Tr.agreeT_two (h.two t hm) e)).mono (Nat.le_refl _) (by omega)
  split
  · intro hinv'
    exact (h.set' hi (by rw [he]; exact Tr.refuseT_id _ _) (hb.refuse _) (fun e => Tr.refuseT_two (h.two t hm) e)).mono (Nat.le_refl _) (by omega)
  split
  · exact fun _ => (h.finish hinv t.idp).mono (Nat.le_refl _) (by omega)
  · exact fun _ => h.mono (by omega) (by omega)
theorem Op5.step_m (o : Op5) (T : Tc) : (o.step T).m = T.m := by
  have hf : ∀ id, (T.finish id).m = T.m := fun id => by unfold Tc.finish; split <;> rfl
  unfold Op5.step
  split
  · exact Tc.start_m _ _
  split
  · exact hf _
  split
  · rfl
  split
  · rfl
  split
  · rfl
  split
  · rfl
  split
  · rfl
  split
  · rfl
  split
  · exact hf _
  · rfl
end Go.Proofs.YtpobepninifenaaGreat

namespace Go.Proofs.YtpobepninifenaaGreat
open Go Go.RowKit

set_option maxRecDepth 100000 in
set_option maxHeartbeats 8000000 in
theorem ropen_c (w : World) (x : RfV) (t : Tr) (h : RfR w x t) (hr : ∀ p ∈ t.rec', p.2.kn = true) (hl : t.qs.length ≤ 1000) :
    Calls Tryz.prog 74 #[rfV x] w fun e w' => ∃ v, e = .returned v ∧ shT.O w' w.heap.size tN v ((opens t.qs).map ndq) ∧ Keeps [] w w' := by
  have hO := h.op
  obtain ⟨XA, hXA, hXR⟩ := h.an
  have hkn := fun k (hk : k < t.qs.length) => hXR.kn hr hk
  have hel := fun k hk => hO.elem (k := k) hk
  have hela := fun k hk => hXA.elem (k := k) hk
  obtain ⟨x0, x1, x2, x3, x4, x5, ⟨x6, x7, x8⟩, ⟨x9, x10, x11⟩, x12, ⟨x13, x14, x15⟩, x16, ⟨x17, x18, x19⟩⟩ := x
  simp only [slv] at hO hXA hel hela
  obtain ⟨_, _, ev, hlc, hcm, _⟩ := hO.form
  obtain ⟨M, hM⟩ : ∃ n, t.qs.length = n := ⟨_, rfl⟩
  have hMo : (t.op.map ndq).length = M := by simp [Tr.op, hM]
  have hMX : XA.length = M := by rw [hXR.1, hM]
  rw [hMo] at ev hlc
  obtain ⟨_, _, ev2, _⟩ := hXA.form
  rw [hMX] at ev2
  rw [hM] at hl
  simp only [Value.slice.injEq] at ev ev2
  obtain ⟨-, ev, -⟩ := ev
  obtain ⟨-, ev2, -⟩ := ev2
  subst ev ev2
  clear hlc hcm hO hXA
  have hbX := heap_alloc_new w (.cells #[.int .i64 x0, .int .i64 x1, .int .i64 x2, .int .u64 x3, .int .i64 x4, .int .i64 x5, .slice x6 x10 x8, .slice x9 x10 x11, .int .i64 x12, .slice x13 x14 x15, .bool x16, .slice x17 x18 x19] tR)
  have hkW : Keeps [] w (w.alloc (.cells #[.int .i64 x0, .int .i64 x1, .int .i64 x2, .int .u64 x3, .int .i64 x4, .int .i64 x5, .slice x6 x10 x8, .slice x9 x10 x11, .int .i64 x12, .slice x13 x14 x15, .bool x16, .slice x17 x18 x19] tR)) := (Keeps.refl _ _).alloc _
  replace hbX := Lib.hid hbX
  replace hel := Lib.hid hel
  replace hela := Lib.hid hela
  replace hkn := Lib.hid hkn
  replace hM := Lib.hid hM
  replace hMo := Lib.hid hMo
  replace hMX := Lib.hid hMX
  replace h := Lib.hid h
  replace hr := Lib.hid hr
  replace hXR := Lib.hid hXR
  simp only [rfV, slv]
  have hMm : x10 ≤ 9223372036854775807 := by omega
  go_enter Tryz.func74, Tryz.ntmps74
  go_upto_region 1 with fail
  generalize (w.alloc (.cells #[.int .i64 x0, .int .i64 x1, .int .i64 x2, .int .u64 x3, .int .i64 x4, .int .i64 x5, .slice x6 x10 x8, .slice x9 x10 x11, .int .i64 x12, .slice x13 x14 x15, .bool x16, .slice x17 x18 x19] tR)) = W at *
  obtain ⟨B, hB⟩ : ∃ B, w.heap.size = B := ⟨_, rfl⟩
  rw [hB] at hbX ⊢
  have hsB : B ≤ W.heap.size := by have := hkW.size; omega
  have hOn := Sh.O.fresh shT W B tN hsB
  have hkE := hkW.alloc (.cells #[] tN)
  have hbX2 := (((Keeps.refl [] W).alloc (.cells #[] tN)).block _ (lt_of_blk hbX.out) (by simp)).trans hbX.out
  replace hB := Lib.hid hB
  replace hbX2 := Lib.hid hbX2
  replace hOn := Lib.hid hOn
  replace hkE := Lib.hid hkE
  clear hbX hkW
  go_wp2
  go_loopw [3, 4] (fun ov iv wr => ∃ k : Nat, iv = .int .i64 k ∧ k ≤ x10 ∧ Hid (shT.O wr B tN ov ((opens (t.qs.take k)).map ndq)) ∧ Hid (Keeps [] w wr) ∧ Hid (wr.heap[B]? = some (.cells #[.int .i64 x0, .int .i64 x1, .int .i64 x2, .int .u64 x3, .int .i64 x4, .int .i64 x5, .slice x6 x10 x8, .slice x9 x10 x11, .int .i64 x12, .slice x13 x14 x15, .bool x16, .slice x17 x18 x19] tR))) (fun _ iv _ => x10 - (intOf iv).toNat)
  case atStart => exact ⟨0, rfl, by omega, hOn, hkE, hbX2⟩
  case round =>
    clear hOn hkE hbX2 hsB
    obtain ⟨k, rfl, hk, hov, hkr, hbX⟩ := hrel
    obtain ⟨z0, z1, z2, z3, z4, z5, z6, z7, z8, z9, z10, z11, zf, zl⟩ := cl12 hbX.out
    by_cases hlt : k < x10
    · have hlt2 : (k : Int) < x10 := by omega
      have hkq : k < t.qs.length := by rw [hM.out]; exact hlt
      obtain ⟨hkX, hknk⟩ := hkn.out k hkq
      obtain ⟨⟨⟨p0, p1, p2⟩, pu⟩, hp⟩ : ∃ p, t.qs[k] = p := ⟨_, rfl⟩
      obtain ⟨g, of, c', hv, he⟩ := hel.out k (by rw [hMo.out]; exact hlt)
      rw [hMo.out] at hv
      cases hv
      have hpe : (t.op.map ndq)[k]'(by rw [hMo.out]; exact hlt) = (p0, p2, p1) := by simp [Tr.op, hp, ndq]
      rw [hpe] at he
      have hkw := hkr.out
      have e0 := hkw.val (he 0 _ rfl)
      have e1 := hkw.val (he 1 _ rfl)
      have e2 := hkw.val (he 2 _ rfl)
      simp only [shT, Nat.add_zero] at e0 e1 e2
      obtain ⟨g2, of2, c2', hv, he2⟩ := hela.out k hkX
      rw [hMX.out] at hv
      cases hv
      have e4 := hkw.val (he2 4 _ rfl)
      simp only [shA] at e4
      rw [hknk, hp] at e4
      have hstep : opens (t.qs.take (k + 1)) = opens (t.qs.take k) ++ if pu.isSome then [] else [(p0, p1, p2)] := by
        rw [List.take_succ_eq_append_getElem hkq, hp, opens_snoc]
      clear he he2 hpe hkw
      replace hp := Lib.hid hp
      cases pu with
      | some a =>
        simp only [Option.isSome_some, if_true, List.append_nil] at hstep e4
        rw [← hstep] at hov
        replace hov := Lib.hid hov.out
        replace hstep := Lib.hid hstep
        go_wp2
        go_roundw
        case rel => exact ⟨k + 1, rfl, by omega, hov, hkr, hbX⟩
        case measure => simp [intOf]; omega
      | none =>
        simp only [Option.isSome_none, Bool.false_eq_true, if_false] at hstep e4
        have hstep2 : (opens (t.qs.take (k + 1))).map ndq = (opens (t.qs.take k)).map ndq ++ [(p0, p2, p1)] := by rw [hstep]; simp [ndq]
        obtain ⟨L0, hL0⟩ : ∃ l, (opens (t.qs.take k)).map ndq = l := ⟨_, rfl⟩
        have hL0l : L0.length ≤ 1000 := by
          rw [← hL0, List.length_map]
          exact Nat.le_trans (opens_len _) (by rw [List.length_take]; have := hM.out; omega)
        rw [hL0] at hstep2 hov
        obtain ⟨oa', oc, rfl⟩ := hov.out.form
        obtain ⟨N0, hN0⟩ : ∃ n, L0.length = n := ⟨_, rfl⟩
        rw [hN0] at hov hL0l ⊢
        replace hstep2 := Lib.hid hstep2
        replace hN0 := Lib.hid hN0
        replace hL0 := Lib.hid hL0
        clear hstep
        have hmade := Sh.R.made shT wr [(p0, p2, p1)] #[.int .i64 p0, .int .u64 p2, .int .i64 p1] tN rfl (by simp [maxLen]) 1 rfl
        have hkM := (Keeps.refl [] wr).alloc (.cells #[.int .i64 p0, .int .u64 p2, .int .i64 p1] tN)
        have hOA := hov.out.keeps hkM
        have hkwM := hkr.out.trans hkM
        have hbXM := (hkM.block _ (lt_of_blk hbX.out) (by simp)).trans hbX.out
        have hsz : B ≤ (wr.alloc (.cells #[.int .i64 p0, .int .u64 p2, .int .i64 p1] tN)).heap.size := by have := hkwM.size; have := hB.out; omega
        replace hmade := Lib.hid hmade
        replace hOA := Lib.hid hOA
        replace hkwM := Lib.hid hkwM
        replace hbXM := Lib.hid hbXM
        clear hkM
        go_wp2_with (at_builtin; (refine Sh.wpl_app shT B infoN rfl Tryz.underlying85 (.slice oa' N0 oc) (.slice (some ⟨wr.heap.size, 0, none⟩) 1 1) L0 [(p0, p2, p1)] rfl _ _ rfl rfl rfl hOA.out hmade.out (by rw [hN0.out]; simp; omega) hsz ?_; intro v5 w5 hO5 hG5; rw [← hstep2.out] at hO5; have hk5 := hkwM.out.fresh hG5.keepsO (fun b hb => .inr (by have := hOA.out.ge b (by simpa using hb); have := hB.out; omega)); have hb5 := (hG5.keepsO.block B (lt_of_blk hbXM.out) (fun hm => by obtain ⟨cs, hc⟩ := hOA.out.tag B (by simpa using hm); exact tag_ne hc hbXM.out (by decide) rfl)).trans hbXM.out; replace hO5 := Lib.hid hO5; replace hk5 := Lib.hid hk5; replace hb5 := Lib.hid hb5; clear hG5))
        go_roundw
        case rel => exact ⟨k + 1, rfl, by omega, hO5, hk5, hb5⟩
        case measure => simp [intOf]; omega
    · have hlt2 : ¬ ((k : Int) < x10) := by omega
      have hkM : k = t.qs.length := by rw [hM.out]; omega
      rw [hkM, List.take_length] at hov
      replace hkM := Lib.hid hkM
      go_wp2
      go_ret
      exact ⟨_, rfl, by rw [hB.out]; exact hov.out, hkr.out⟩
def RAimPost (w : World) (a : Ans) (l : List Qn) (n : Int) (v : Value) (e : Ending) (w' : World) : Prop := ∃ y', e = .returned (aV y') ∧ y'.v = v ∧ InR w' y' (aimQ a l n) ∧ Keeps [] w w'
theorem aimQ_in {a : Ans} {l : List Qn} {n : Int} (h1 : 0 < l.length) (h2 : 0 ≤ n) {q : Qn} (h : l[(n % l.length).toNat]? = some q) : aimQ a l n = { a with m := q.1, ow := q.2.1, n := q.2.2 } := by
  unfold aimQ
  rw [if_pos ⟨h1, h2⟩, h]
theorem aimQ_out {a : Ans} {l : List Qn} {n : Int} (h : ¬ (0 < l.length ∧ 0 ≤ n)) : aimQ a l n = a := by
  unfold aimQ
  rw [if_neg h]
theorem aimQ_rest (a : Ans) (l : List Qn) (n : Int) : (aimQ a l n).ep = a.ep ∧ (aimQ a l n).kn = a.kn ∧ (aimQ a l n).rt = a.rt ∧ (aimQ a l n).lu = a.lu ∧ (aimQ a l n).ins = a.ins := by
  unfold aimQ
  split
  · split <;> exact ⟨rfl, rfl, rfl, rfl, rfl⟩
  · exact ⟨rfl, rfl, rfl, rfl, rfl⟩
theorem sc3a {w : World} {X : Nat} {t : TypeId} {y0 y1 y2 y3 y4 y5 y6 y7 : Value} (x0 x1 x2 : Value) (h : w.heap[X]? = some (.cells #[y0, y1, y2, y3, y4, y5, y6, y7] t (0, 0))) :
    (((w.setCell ⟨X, 0, none⟩ x0).setCell ⟨X, 1, none⟩ x1).setCell ⟨X, 2, none⟩ x2).heap[X]? = some (.cells #[x0, x1, x2, y3, y4, y5, y6, y7] t (0, 0)) ∧ Keeps [X] w (((w.setCell ⟨X, 0, none⟩ x0).setCell ⟨X, 1, none⟩ x1).setCell ⟨X, 2, none⟩ x2) := by
  refine ⟨by simp [World.setCell, Array.getElem?_modify, h], ?_⟩
  refine (((Keeps.refl _ w).setCell ?_ _).setCell ?_ _).setCell ?_ _ <;> exact .inr (by simp)
set_option maxRecDepth 100000 in
set_option maxHeartbeats 8000000 in
theorem raim_c (w : World) (x : RfV) (t : Tr) (a : Ans) (n : Int) (y : AnV) (h : RfR w x t) (hr : ∀ p ∈ t.rec', p.2.kn = true) (hy : InR w y a) (hl : t.qs.length ≤ 1000) (hn : -9223372036854775808 ≤ n ∧ n ≤ 9223372036854775807) :
    Calls Tryz.prog 31 #[rfV x, aV y, .int .i64 n] w (RAimPost w a (opens t.qs) n y.v) := by
  have hoc := fun (W : World) (hk : Keeps [] w W) => ropen_c W x t (h.keeps hk) hr hl
  have hQl : (opens t.qs).length ≤ 1000 := Nat.le_trans (opens_len _) hl
  obtain ⟨L, hL⟩ : ∃ l, opens t.qs = l := ⟨_, rfl⟩
  rw [hL] at hoc hQl ⊢
  clear h hr hl hL
  obtain ⟨x0, x1, x2, x3, x4, x5, ⟨x6, x7, x8⟩, ⟨x9, x10, x11⟩, x12, ⟨x13, x14, x15⟩, x16, ⟨x17, x18, x19⟩⟩ := x
  obtain ⟨y0, y1, y2, y3, y4, y5, y6, y7, y8, y9⟩ := y
  obtain ⟨i1, i2, i3, i4, i5, i6, i7, hI⟩ := hy
  simp only [AnV.v] at i1 i2 i3 i4 i5 i6 i7 hI
  have hvz : ∀ W', Keeps [] w W' → ∀ y' : AnV, y'.v = .slice y7 y8 y9 → (y'.m = (aimQ a L n).m ∧ y'.ow = (aimQ a L n).ow ∧ y'.n = (aimQ a L n).n ∧ y'.ep = a.ep ∧ y'.kn = a.kn ∧ y'.rt = a.rt ∧ y'.lu = a.lu) → InR W' y' (aimQ a L n) := fun W' hk y' hv hh => by
    obtain ⟨c1, c2, c3, c4, c5⟩ := aimQ_rest a L n
    obtain ⟨b1, b2, b3, b4, b5, b6, b7⟩ := hh
    exact ⟨b1, b2, b3, by rw [b4, c1], by rw [b5, c2], by rw [b6, c3], by rw [b7, c4], by rw [hv, c5]; exact hI.keeps hk⟩
  obtain ⟨hbX, hbA, hbZ, hkW, hzW⟩ := blks3 w (.cells #[.int .i64 x0, .int .i64 x1, .int .i64 x2, .int .u64 x3, .int .i64 x4, .int .i64 x5, .slice x6 x7 x8, .slice x9 x10 x11, .int .i64 x12, .slice x13 x14 x15, .bool x16, .slice x17 x18 x19] tR) (.cells #[.int .i64 y0, .int .i64 y1, .int .u64 y2, .int .i64 y3, .bool y4, .bool y5, .int .i64 y6, .slice y7 y8 y9] tA) (.cells #[.int .i64 0, .int .i64 0, .int .u64 0, .int .i64 0, .bool false, .bool false, .int .i64 0, .slice none 0 0] tA)
  replace hoc := Lib.hid hoc
  replace hvz := Lib.hid hvz
  replace hkW := Lib.hid hkW
  replace i1 := Lib.hid i1
  replace i2 := Lib.hid i2
  replace i3 := Lib.hid i3
  replace i4 := Lib.hid i4
  replace i5 := Lib.hid i5
  replace i6 := Lib.hid i6
  replace i7 := Lib.hid i7
  clear hI
  simp only [rfV, aV, slv, AnV.v] at hoc ⊢
  go_enter Tryz.func31, Tryz.ntmps31
  go_upto_region 1 with fail
  unfold RAimPost
  generalize (((w.alloc (.cells #[.int .i64 x0, .int .i64 x1, .int .i64 x2, .int .u64 x3, .int .i64 x4, .int .i64 x5, .slice x6 x7 x8, .slice x9 x10 x11, .int .i64 x12, .slice x13 x14 x15, .bool x16, .slice x17 x18 x19] tR)).alloc (.cells #[.int .i64 y0, .int .i64 y1, .int .u64 y2, .int .i64 y3, .bool y4, .bool y5, .int .i64 y6, .slice y7 y8 y9] tA)).alloc (.cells #[.int .i64 0, .int .i64 0, .int .u64 0, .int .i64 0, .bool false, .bool false, .int .i64 0, .slice none 0 0] tA)) = W at *
  obtain ⟨B, hB⟩ : ∃ B, w.heap.size = B := ⟨_, rfl⟩
  rw [hB] at hbX hbA hbZ hzW ⊢
  obtain ⟨z0, z1, z2, z3, z4, z5, z6, z7, z8, z9, z10, z11, zf, zl⟩ := cl12 hbX
  replace hB := Lib.hid hB
  replace hzW := Lib.hid hzW
  replace hbX := Lib.hid hbX
  replace hbA := Lib.hid hbA
  replace hbZ := Lib.hid hbZ
  go_wp2_with fail
  refine (hoc.out W hkW.out).mono ?_
  rintro e w1 ⟨v1, rfl, hO1, hk1⟩
  obtain ⟨la, lc, hlc1, hlc2, hlc3, _⟩ := hO1.r.form
  rw [List.length_map] at hlc1 hlc2
  obtain ⟨NL, hNL⟩ : ∃ m, L.length = m := ⟨_, rfl⟩
  rw [hNL] at hlc1 hlc2 hQl
  subst hlc1
  have hel := fun k hk => hO1.r.elem (k := k) hk
  have hkw := hkW.out.trans hk1
  have hA1 := (hk1.block _ (lt_of_blk hbA.out) (by simp)).trans hbA.out
  have hZ1 := (hk1.block _ (lt_of_blk hbZ.out) (by simp)).trans hbZ.out
  replace hel := Lib.hid hel
  replace hNL := Lib.hid hNL
  replace hkw := Lib.hid hkw
  clear z0 z1 z2 z3 z4 z5 z6 z7 z8 z9 z10 z11 zf zl hO1 hk1 hoc hbX hbA hbZ hkW hlc2 hlc3
  obtain ⟨k0, k1, k2, k3, k4, k5, k6, k7, kf, kl⟩ := cl8 hA1
  obtain ⟨v0, v1, v2, v3, v4, v5, v6, v7, vf, vl⟩ := cl8 hZ1
  replace hA1 := Lib.hid hA1
  replace hZ1 := Lib.hid hZ1
  by_cases hc : 0 < NL ∧ 0 ≤ n
  · obtain ⟨hpos, hn0⟩ := hc
    have hposi : (0 : Int) < NL := by omega
    have hNz : ¬ (NL : Int) = 0 := by omega
    have hNm1 : ¬ (NL : Int) = -1 := by omega
    obtain ⟨P, hP⟩ : ∃ P, (n % (NL : Int)).toNat = P := ⟨_, rfl⟩
    have hm1 : 0 ≤ n % (NL : Int) := Int.emod_nonneg _ hNz
    have hm2 : n % (NL : Int) < NL := Int.emod_lt_of_pos _ hposi
    have hp1 : P < NL := by omega
    have hp1i : (P : Int) < NL := by omega
    have hp5 : n.tmod (NL : Int) = (P : Int) := by rw [Int.tmod_eq_emod_of_nonneg hn0, ← hP, Int.toNat_of_nonneg hm1]
    have hPo : P < L.length := by rw [hNL.out]; exact hp1
    obtain ⟨g, of, c', hv, he⟩ := hel.out P (by rw [List.length_map]; exact hPo)
    rw [List.length_map, hNL.out] at hv
    cases hv
    obtain ⟨⟨p0, p1, p2⟩, hp⟩ : ∃ p, L[P] = p := ⟨_, rfl⟩
    have hpe : (L.map ndq)[P]'(by rw [List.length_map]; exact hPo) = (p0, p2, p1) := by simp [hp, ndq]
    rw [hpe] at he
    have e0 := he 0 _ rfl
    have e1 := he 1 _ rfl
    have e2 := he 2 _ rfl
    simp only [shT, Nat.add_zero] at e0 e1 e2
    have ha : aimQ a L n = { a with m := p0, ow := p1, n := p2 } := aimQ_in (q := (p0, p1, p2)) (by rw [hNL.out]; exact hpos) hn0 (by rw [hNL.out, hP, List.getElem?_eq_getElem hPo, hp])
    have hkN := (Keeps.refl [] w1).alloc (.cells #[.int .i64 p0, .int .u64 p2, .int .i64 p1] tN)
    have hbN := heap_alloc_new w1 (.cells #[.int .i64 p0, .int .u64 p2, .int .i64 p1] tN)
    have zA := (hkN.block _ kl (by simp)).trans hA1.out
    have zZ := (hkN.block _ vl (by simp)).trans hZ1.out
    have hkwN := hkw.out.trans hkN
    have hm64 : -9223372036854775808 ≤ (P : Int) ∧ (P : Int) ≤ 9223372036854775807 := by omega
    replace hkwN := Lib.hid hkwN
    replace hbN := Lib.hid hbN
    replace zA := Lib.hid zA
    replace zZ := Lib.hid zZ
    replace hP := Lib.hid hP
    replace hp := Lib.hid hp
    replace ha := Lib.hid ha
    clear he hpe hkN hm1 hm2 hkw
    go_upto_region 4 with fail
    generalize (w1.alloc (.cells #[.int .i64 p0, .int .u64 p2, .int .i64 p1] tN)) = w2 at *
    obtain ⟨XN, hXN⟩ : ∃ X, w1.heap.size = X := ⟨_, rfl⟩
    rw [hXN] at hbN ⊢
    have hXN2 : B + 1 + 1 < XN := by rw [← hXN]; exact vl
    replace hXN := Lib.hid hXN
    clear e0 e1 e2 k0 k1 k2 k3 k4 k5 k6 k7 kf kl v0 v1 v2 v3 v4 v5 v6 v7 vf vl
    have hbNd : w2.drew.heap[XN]? = _ := hbN.out
    have zAd : w2.drew.heap[B + 1]? = _ := zA.out
    have zZd : w2.drew.heap[B + 1 + 1]? = _ := zZ.out
    have hkd := hkwN.out.drew
    obtain ⟨n0, n1, n2, nf, nl⟩ := cl3 hbNd
    obtain ⟨k0, k1, k2, k3, k4, k5, k6, k7, kf, kl⟩ := cl8 zAd
    have hvl := lt_of_blk zZd
    replace hbNd := Lib.hid hbNd
    replace zAd := Lib.hid zAd
    replace zZd := Lib.hid zZd
    replace hkd := Lib.hid hkd
    clear hbN zA zZ hkwN
    refine Free.wp_region_chain (fun i => i == 7 || i == 9 || i == 11) (fun i => true) (fun _ b => b = B + 1) (by kernel_rfl) (by kernel_rfl) (by kernel_rfl) ?_
    generalize w2.drew = wd at *
    (repeat (first | (apply Free.cw_pure rfl rfl; (intro w'; go_simp <;> exact rfl); go_frame) | (apply Free.cw_steady rfl rfl rfl; (intro w' hS; have q0 := Free.sx_cell hS n0 (fun _ _ hT => by omega); have q1 := Free.sx_cell hS n1 (fun _ _ hT => by omega); have q2 := Free.sx_cell hS n2 (fun _ _ hT => by omega); go_simp <;> exact rfl); go_frame) | (refine Free.cw_skip rfl ?_; go_frame)))
    refine Free.cw_loud rfl rfl (fun K hK => ?_)
    go_wp2
    refine hK _ _ rfl (Free.KeepsP.setCell (S := fun b => b = B + 1) _ rfl _) ?_
    clear hK K
    (repeat (first | (apply Free.cw_pure rfl rfl; (intro w'; go_simp <;> exact rfl); go_frame) | (apply Free.cw_steady rfl rfl rfl; (intro w' hS; have q0 := Free.sx_cell hS n0 (fun _ _ hT => by omega); have q1 := Free.sx_cell hS n1 (fun _ _ hT => by omega); have q2 := Free.sx_cell hS n2 (fun _ _ hT => by omega); go_simp <;> exact rfl); go_frame) | (refine Free.cw_skip rfl ?_; go_frame)))
    refine Free.cw_loud rfl rfl (fun K hK => ?_)
    go_wp2
    refine hK _ _ rfl (Free.KeepsP.setCell (S := fun b => b = B + 1) _ rfl _) ?_
    clear hK K
    (repeat (first | (apply Free.cw_pure rfl rfl; (intro w'; go_simp <;> exact rfl); go_frame) | (apply Free.cw_steady rfl rfl rfl; (intro w' hS; have q0 := Free.sx_cell hS n0 (fun _ _ hT => by omega); have q1 := Free.sx_cell hS n1 (fun _ _ hT => by omega); have q2 := Free.sx_cell hS n2 (fun _ _ hT => by omega); go_simp <;> exact rfl); go_frame) | (refine Free.cw_skip rfl ?_; go_frame)))
    refine Free.cw_loud rfl rfl (fun K hK => ?_)
    go_wp2
    refine hK _ _ rfl (Free.KeepsP.setCell (S := fun b => b = B + 1) _ rfl _) ?_
    clear hK K
    refine Free.cw_nil ?_
    obtain ⟨sA, sk⟩ := sc3a (.int .i64 p0) (.int .i64 p1) (.int .u64 p2) zAd.out
    have sZ := (sk.block (B + 1 + 1) hvl (by simp)).trans zZd.out
    have hk2 := hkd.out.fresh sk (fun b hb => by simp only [List.mem_singleton] at hb; subst hb; exact .inr (by have := hB.out; omega))
    generalize (((wd.setCell ⟨B + 1, 0, none⟩ (.int .i64 p0)).setCell ⟨B + 1, 1, none⟩ (.int .i64 p1)).setCell ⟨B + 1, 2, none⟩ (.int .u64 p2)) = w3 at *
    replace sA := Lib.hid sA
    replace sZ := Lib.hid sZ
    replace hk2 := Lib.hid hk2
    clear sk k0 k1 k2 k3 k4 k5 k6 k7 kf kl n0 n1 n2 nf nl hbNd zAd zZd hkd hvl
    obtain ⟨k0, k1, k2, k3, k4, k5, k6, k7, kf, kl⟩ := cl8 sA.out
    obtain ⟨v0, v1, v2, v3, v4, v5, v6, v7, vf, vl⟩ := cl8 sZ.out
    go_wp2
    obtain ⟨g1, g2⟩ := sc8 (.int .i64 p0) (.int .i64 p1) (.int .u64 p2) (.int .i64 y3) (.bool y4) (.bool y5) (.int .i64 y6) (.slice y7 y8 y9) sZ.out
    have hkf := hk2.out.fresh g2 (fun b hb => by simp only [List.mem_singleton] at hb; subst hb; exact .inr (by have := hB.out; omega))
    refine bodyPost_ret (results_cell_row rfl _ _ _ _ _ _ _ rfl g1 Tryz.underlying37 rfl (by kernel_rfl)) rfl ?_
    exact ⟨⟨p0, p1, p2, y3, y4, y5, y6, y7, y8, y9⟩, rfl, rfl, hvz.out _ hkf _ rfl (by rw [ha.out]; exact ⟨rfl, rfl, rfl, i4.out, i5.out, i6.out, i7.out⟩), hkf⟩
  · have ha : aimQ a L n = a := aimQ_out (by rw [hNL.out]; exact hc)
    replace ha := Lib.hid ha
    by_cases hp : 0 < NL
    · have hposi : (0 : Int) < NL := by omega
      have hn0 : ¬ (0 ≤ n) := by omega
      clear hc
      go_wp2
      obtain ⟨g1, g2⟩ := sc8 (.int .i64 y0) (.int .i64 y1) (.int .u64 y2) (.int .i64 y3) (.bool y4) (.bool y5) (.int .i64 y6) (.slice y7 y8 y9) hZ1.out
      have hkf := hkw.out.fresh g2 (fun b hb => by simp only [List.mem_singleton] at hb; subst hb; exact .inr (by have := hB.out; omega))
      refine bodyPost_ret (results_cell_row rfl _ _ _ _ _ _ _ rfl g1 Tryz.underlying37 rfl (by kernel_rfl)) rfl ?_
      exact ⟨⟨y0, y1, y2, y3, y4, y5, y6, y7, y8, y9⟩, rfl, rfl, hvz.out _ hkf _ rfl (by rw [ha.out]; exact ⟨i1.out, i2.out, i3.out, i4.out, i5.out, i6.out, i7.out⟩), hkf⟩
    · have hz : NL = 0 := by omega
      clear hc hp
      subst hz
      go_wp2
      obtain ⟨g1, g2⟩ := sc8 (.int .i64 y0) (.int .i64 y1) (.int .u64 y2) (.int .i64 y3) (.bool y4) (.bool y5) (.int .i64 y6) (.slice y7 y8 y9) hZ1.out
      have hkf := hkw.out.fresh g2 (fun b hb => by simp only [List.mem_singleton] at hb; subst hb; exact .inr (by have := hB.out; omega))
      refine bodyPost_ret (results_cell_row rfl _ _ _ _ _ _ _ rfl g1 Tryz.underlying37 rfl (by kernel_rfl)) rfl ?_
      exact ⟨⟨y0, y1, y2, y3, y4, y5, y6, y7, y8, y9⟩, rfl, rfl, hvz.out _ hkf _ rfl (by rw [ha.out]; exact ⟨i1.out, i2.out, i3.out, i4.out, i5.out, i6.out, i7.out⟩), hkf⟩
end Go.Proofs.YtpobepninifenaaGreat

namespace Go.Proofs.YtpobepninifenaaGreat
open Go Go.RowKit
namespace InsS
variable {α : Type}
theorem loud_mono {P : Program} {o : Oper} {a : Act} {w : World} {R R' : Value → World → Prop} (h : Free.Loud P o a w R) (hR : ∀ v w', R v w' → R' v w') : Free.Loud P o a w R' := by
  unfold Free.Loud at h ⊢
  unfold Free.loudUpon at h ⊢
  split at h <;> first | exact h.elim | exact hR _ _ h | exact Calls.mono h (fun e w'' ⟨v, he, hr⟩ => ⟨v, he, hR _ _ hr⟩)
def F (s : Sh α) (A M A2 S : Nat) (Q : World → Prop) (B0 : Nat) (e : TypeId) (L1 : List α) (x : α) (i : Nat) (v : Value) (w : World) : Prop := (i = S → Q w) ∧ Ins.F s A M A2 A2 B0 e L1 x [] i v w
def T (A2 S X B0 : Nat) (k b : Nat) : Prop := Ins.T A2 A2 B0 k b ∨ (k = S ∧ b = X)
def K (A2 S : Nat) (k i : Nat) : Bool := (k == S && i != S) || (Ins.K A2 A2 k i && i != S)
theorem stable {s : Sh α} {A M A2 S X : Nat} {Q : World → Prop} {B0 : Nat} {e : TypeId} {L1 : List α} {x : α} {ops : Array Oper} {loud : Nat → Bool} (hpre : Free.pre ops A2 S = true) (hQ : ∀ w w', Q w → Free.KeepsP (fun _ => False) w w' → Q w') :
    ∀ i k v w w', loud i = true → i ≠ k → K A2 S k i = false → Free.pre ops k i = false → F s A M A2 S Q B0 e L1 x i v w → Free.KeepsP (T A2 S X B0 k) w w' → F s A M A2 S Q B0 e L1 x i v w' := by
  intro i k v w w' hl hne hK hp hF hk
  by_cases hks : k = S
  · subst hks
    exfalso
    unfold K at hK
    simp [hne] at hK
  · have hkT : Free.KeepsP (Ins.T A2 A2 B0 k) w w' := hk.mono (fun b hb => hb.elim id (fun h => absurd h.1 hks))
    by_cases his : i = S
    · subst his
      have hk2 : k ≠ A2 := fun e => by subst e; rw [hp] at hpre; cases hpre
      have hkF : Free.KeepsP (fun _ => False) w w' := hkT.mono (fun b hb => by rcases hb.1 with e | e <;> exact hk2 e)
      exact ⟨fun h => hQ w w' (hF.1 h) hkF, Ins.keepF hF.2 hkF⟩
    · refine ⟨fun h => absurd h his, Ins.stable (.inl rfl) i k v w w' hl hne ?_ hp hF.2 hkT⟩
      unfold K at hK
      simpa [hks, his] using hK
theorem low {ops : Array Oper} {A2 S X B0 i b : Nat} (hp : Free.pre ops i S = true) (h : Free.sx ops (T A2 S X B0) i b) : B0 ≤ b := by
  obtain ⟨k, h1, h2, h3 | ⟨rfl, _⟩⟩ := h
  · exact h3.2
  · rw [hp] at h2; cases h2
theorem lowS {ops : Array Oper} {A2 S X B0 b : Nat} (h : Free.sx ops (T A2 S X B0) S b) : B0 ≤ b := by
  obtain ⟨k, h1, h2, h3 | ⟨rfl, _⟩⟩ := h
  · exact h3.2
  · exact absurd rfl h1
theorem lowA {A2 S X B0 b : Nat} (h : Free.sa (T A2 S X B0) b) : B0 ≤ b ∨ b = X := by
  obtain ⟨k, h | h⟩ := h
  · exact .inl h.2
  · exact .inr h.2
theorem lift {s : Sh α} {A M A2 S X k : Nat} {Q : World → Prop} {B0 : Nat} {e : TypeId} {L1 : List α} {x : α} {v : Value} {w w' : World} (hne : k ≠ S) (h : Ins.F s A M A2 A2 B0 e L1 x [] k v w' ∧ Free.KeepsP (Ins.T A2 A2 B0 k) w w') :
    F s A M A2 S Q B0 e L1 x k v w' ∧ Free.KeepsP (T A2 S X B0 k) w w' := ⟨⟨fun h => absurd h hne, h.1⟩, h.2.mono (fun _ h => .inl h)⟩
end InsS
end Go.Proofs.YtpobepninifenaaGreat
