/- Texts that the laws lean on, in the order in which they build. The specification's Decode of a certificate. (Printed by mkcvd.py.) A trace that came about by operations is decoded from its encoding (plain). A certificate is read from its encoding (plain). The program's Decode: its closures number, one, and the one of an inset. (Printed by mkdea.py.) The program's Decode: read[Need], read[Inset]. (Printed by mkdeb.py.) The program's reading and the specification's: they go wrong together, and agree where they do not. Plain. The program's Decode as a function, and the specification's: plain. -/
import Derived.Test.YtiplgpefapeapaaGreatD10
set_option linter.unusedVariables false
set_option linter.unusedSimpArgs false
namespace Go.Proofs.YtiplgpefapeapaaGreat
open Go.RowKit

/-! ### plain -/
def rYc : Nat → RS → List Ans → List Ans × RS
  | 0, s, L => (L, s)
  | n + 1, s, L => if s.2 = 0 then rYc n (rAs s).2 (L ++ [(rAs s).1]) else (L, s)
def rPs (s : RS) : PCl × RS :=
  (⟨(rI s).1, (rI (rI s).2).1, (rNs (rI (rI s).2).2).1, (rNs (rNs (rI (rI s).2).2).2).1, (rNs (rNs (rNs (rI (rI s).2).2).2).2).1⟩, (rNs (rNs (rNs (rI (rI s).2).2).2).2).2)
def rPc : Nat → RS → List PCl → List PCl × RS
  | 0, s, L => (L, s)
  | n + 1, s, L => if s.2 = 0 then rPc n (rPs s).2 (L ++ [(rPs s).1]) else (L, s)
def dY (l : List UInt8) : List Ans × RS := rYc (rCS 1024 (rX (rI (rI (l, 0)).2).2).2).1 (rCS 1024 (rX (rI (rI (l, 0)).2).2).2).2 []
def dP (l : List UInt8) : List PCl × RS := rPc (rCS 1024 (dY l).2).1 (rCS 1024 (dY l).2).2 []
def dCt (l : List UInt8) : Ct := ⟨(rI (l, 0)).1, (rI (rI (l, 0)).2).1, (rX (rI (rI (l, 0)).2).2).1, (dY l).1, (dP l).1⟩
/-- What the specification's Decode gives. -/
def decS (l : List UInt8) : Option Ct := if (dP l).2.2 = 0 ∧ doneE (dP l).2.1 (dP l).2.2 = 0 ∧ encCt (dCt l) = l then some (dCt l) else none
/-! ### the memory -/
theorem tCt_r : (tCt : Nat) ≠ tRr := by decide
theorem tCt_b : (tCt : Nat) ≠ tB := by decide
theorem tC_r : (tC : Nat) ≠ tRr := by decide
theorem tC_b : (tC : Nat) ≠ tB := by decide
structure DcS (w W : World) (Z X br : Nat) (s : RS) (i0 i1 : Int) (st : T3) (av cv : Option Addr × Nat × Nat) (XA : List AnV) (Y : List Ans) (XC : List ClV) (P : List PCl) : Prop where
  x : W.heap[X]? = some (.cells #[.int .i64 i0, .int .i64 i1, .int .i64 st.1, .int .u64 st.2.1, .int .i64 st.2.2, slv av, slv cv] tCt (0, 0))
  z : W.heap[Z]? = some (.cells #[.int .i64 0, .int .i64 0, .int .i64 0, .int .u64 0, .int .i64 0, .slice none 0 0, .slice none 0 0] tCt (0, 0))
  r : RrS W br s
  a : shA.O W (X + 1) tA (slv av) XA
  la : LA W XA Y
  c : shC.O W (X + 1) tC (slv cv) XC
  rc : Rows' W XC P
  k : Keeps [] w W
  zb : Z < br
  bx : br < X
  wz : w.heap.size ≤ Z
namespace DcS
variable {w W W' : World} {Z X br : Nat} {s s' : RS} {i0 i1 : Int} {st : T3} {av cv : Option Addr × Nat × Nat} {XA : List AnV} {Y : List Ans} {XC : List ClV} {P : List PCl}
theorem ref (h : DcS w W Z X br s i0 i1 st av cv XA Y XC P) (hk : Keeps [br] W W') (hr : RrS W' br s') : DcS w W' Z X br s' i0 i1 st av cv XA Y XC P := by
  have h1 := h.zb
  have h2 := h.bx
  have h3 := h.wz
  obtain ⟨rcs, hrt⟩ := h.r.tag
  refine ⟨(hk.block X (lt_of_blk h.x) (by simp; omega)).trans h.x, (hk.block Z (lt_of_blk h.z) (by simp; omega)).trans h.z, hr, h.a.keepS hk (fun b hb e => ?_), h.la.ki (hk.ki (fun b hb cs f e => ?_)), h.c.keepS hk (fun b hb e => ?_), h.rc.keepS hk (fun b hb cs f e => ?_), h.k.fresh hk (fun b hb => .inr (by simp only [List.mem_singleton] at hb; omega)), h1, h2, h3⟩
  · simp only [List.mem_singleton] at hb; have := h.a.ge _ e; omega
  · simp only [List.mem_singleton] at hb; subst hb; rw [hrt] at e; cases e
  · simp only [List.mem_singleton] at hb; have := h.c.ge _ e; omega
  · simp only [List.mem_singleton] at hb; subst hb; rw [hrt] at e; cases e
/-- The head is written. -/
theorem head (h : DcS w W Z X br s i0 i1 st av cv XA Y XC P) (hk : Keeps [X] W W') {j0 j1 : Int} {st' : T3} (hx : W'.heap[X]? = some (.cells #[.int .i64 j0, .int .i64 j1, .int .i64 st'.1, .int .u64 st'.2.1, .int .i64 st'.2.2, slv av, slv cv] tCt (0, 0))) : DcS w W' Z X br s j0 j1 st' av cv XA Y XC P := by
  have h1 := h.zb
  have h2 := h.bx
  have h3 := h.wz
  refine ⟨hx, (hk.block Z (lt_of_blk h.z) (by simp; omega)).trans h.z, h.r.other hk h.x tCt_r tCt_b, h.a.keepS hk (fun b hb e => ?_), h.la.ki (hk.ki (fun b hb cs f e => ?_)), h.c.keepS hk (fun b hb e => ?_), h.rc.keepS hk (fun b hb cs f e => ?_), h.k.fresh hk (fun b hb => .inr (by simp only [List.mem_singleton] at hb; omega)), h1, h2, h3⟩
  · simp only [List.mem_singleton] at hb; have := h.a.ge _ e; omega
  · simp only [List.mem_singleton] at hb; subst hb; rw [h.x] at e; cases e
  · simp only [List.mem_singleton] at hb; have := h.c.ge _ e; omega
  · simp only [List.mem_singleton] at hb; subst hb; rw [h.x] at e; cases e
theorem keeps (h : DcS w W Z X br s i0 i1 st av cv XA Y XC P) (hk : Keeps [] W W') : DcS w W' Z X br s i0 i1 st av cv XA Y XC P :=
  ⟨(hk.block X (lt_of_blk h.x) (by simp)).trans h.x, (hk.block Z (lt_of_blk h.z) (by simp)).trans h.z, h.r.keeps hk, h.a.keeps hk, h.la.ki hk.ki0, h.c.keeps hk, h.rc.keeps hk, h.k.trans hk, h.zb, h.bx, h.wz⟩
/-- An answer more. -/
theorem pushA (h : DcS w W Z X br s i0 i1 st av cv XA Y XC P) {y : AnV} {a : Ans} {v : Option Addr × Nat × Nat} (hO : shA.O W' (X + 1) tA (slv v) (XA ++ [y])) (hG : Grw W W' (slv av) (slv v)) (hy : InA W y a) :
    W'.heap[X]? = some (.cells #[.int .i64 i0, .int .i64 i1, .int .i64 st.1, .int .u64 st.2.1, .int .i64 st.2.2, slv av, slv cv] tCt (0, 0)) ∧ Keeps [X] W' (W'.setCell ⟨X, 5, none⟩ (slv v)) ∧ (∀ b ∈ (slv av).ownBlock.toList, X < b) ∧
    DcS w (W'.setCell ⟨X, 5, none⟩ (slv v)) Z X br s i0 i1 st v cv (XA ++ [y]) (Y ++ [a]) XC P := by
  have h1 := h.zb
  have h2 := h.bx
  have h3 := h.wz
  have hge : ∀ b ∈ (slv av).ownBlock.toList, X < b := fun b hb => h.a.ge b (by simpa using hb)
  have htg : ∀ b ∈ (slv av).ownBlock.toList, ∃ cs : Array Value, W.heap[b]? = some (.cells cs tA (0, 0)) := fun b hb => h.a.tag b (by simpa using hb)
  have hx := (hG.keepsO.block X (lt_of_blk h.x) (fun hm => by have := hge X hm; omega)).trans h.x
  have hz := (hG.keepsO.block Z (lt_of_blk h.z) (fun hm => by have := hge Z hm; omega)).trans h.z
  have hk2 : Keeps [X] W' (W'.setCell ⟨X, 5, none⟩ (slv v)) := (Keeps.refl _ _).setCell (.inr (by simp)) _
  have hr := h.r.moved hG.keepsO (fun hm => by have := hge br hm; omega) (fun b hm cs e => by obtain ⟨c', hc⟩ := htg b hm; rw [hc] at e; cases e)
  have hki := hG.keepsO.ki (fun b hb cs f e => by obtain ⟨c', hc⟩ := htg b hb; rw [hc] at e; cases e)
  have hki2 := hk2.ki (fun b hb cs f e => by simp only [List.mem_singleton] at hb; subst hb; rw [hx] at e; cases e)
  have hc1 := h.c.keepS hG.keepsO (fun b hb e => by obtain ⟨c', hc⟩ := htg b hb; obtain ⟨c2, hc2⟩ := h.c.tag b e; rw [hc] at hc2; cases hc2)
  have hrc1 := h.rc.keepS hG.keepsO (fun b hb cs f e => by obtain ⟨c', hc⟩ := htg b hb; rw [hc] at e; cases e)
  refine ⟨hx, hk2, hge, by simp [World.setCell, Array.getElem?_modify, hx], (hk2.block Z (lt_of_blk hz) (by simp; omega)).trans hz, hr.other hk2 hx tCt_r tCt_b, hO.keepS hk2 (fun b hb e => ?_), ((h.la.snoc hy).ki hki).ki hki2, hc1.keepS hk2 (fun b hb e => ?_), hrc1.keepS hk2 (fun b hb cs f e => ?_), (h.k.fresh hG.keepsO (fun b hb => .inr (by have := hge b hb; omega))).fresh hk2 (fun b hb => .inr (by simp only [List.mem_singleton] at hb; omega)), h1, h2, h3⟩
  · simp only [List.mem_singleton] at hb; have := hO.ge _ e; omega
  · simp only [List.mem_singleton] at hb; have := h.c.ge _ e; omega
  · simp only [List.mem_singleton] at hb; subst hb; rw [hx] at e; cases e
/-- A claim more. -/
theorem pushC (h : DcS w W Z X br s i0 i1 st av cv XA Y XC P) {y : ClV} {p : PCl} {v : Option Addr × Nat × Nat} (hO : shC.O W' (X + 1) tC (slv v) (XC ++ [y])) (hG : Grw W W' (slv cv) (slv v)) (hy : CRt W y p) :
    W'.heap[X]? = some (.cells #[.int .i64 i0, .int .i64 i1, .int .i64 st.1, .int .u64 st.2.1, .int .i64 st.2.2, slv av, slv cv] tCt (0, 0)) ∧
    DcS w (W'.setCell ⟨X, 6, none⟩ (slv v)) Z X br s i0 i1 st av v XA Y (XC ++ [y]) (P ++ [p]) := by
  have h1 := h.zb
  have h2 := h.bx
  have h3 := h.wz
  have hge : ∀ b ∈ (slv cv).ownBlock.toList, X < b := fun b hb => h.c.ge b (by simpa using hb)
  have htg : ∀ b ∈ (slv cv).ownBlock.toList, ∃ cs : Array Value, W.heap[b]? = some (.cells cs tC (0, 0)) := fun b hb => h.c.tag b (by simpa using hb)
  have hx := (hG.keepsO.block X (lt_of_blk h.x) (fun hm => by have := hge X hm; omega)).trans h.x
  have hz := (hG.keepsO.block Z (lt_of_blk h.z) (fun hm => by have := hge Z hm; omega)).trans h.z
  have hk2 : Keeps [X] W' (W'.setCell ⟨X, 6, none⟩ (slv v)) := (Keeps.refl _ _).setCell (.inr (by simp)) _
  have hr := h.r.moved hG.keepsO (fun hm => by have := hge br hm; omega) (fun b hm cs e => by obtain ⟨c', hc⟩ := htg b hm; rw [hc] at e; cases e)
  have hki := hG.keepsO.ki (fun b hb cs f e => by obtain ⟨c', hc⟩ := htg b hb; rw [hc] at e; cases e)
  have hki2 := hk2.ki (fun b hb cs f e => by simp only [List.mem_singleton] at hb; subst hb; rw [hx] at e; cases e)
  have ha1 := h.a.keepS hG.keepsO (fun b hb e => by obtain ⟨c', hc⟩ := htg b hb; obtain ⟨c2, hc2⟩ := h.a.tag b e; rw [hc] at hc2; cases hc2)
  have hrc1 := (h.rc.snoc hy).keepS hG.keepsO (fun b hb cs f e => by obtain ⟨c', hc⟩ := htg b hb; rw [hc] at e; cases e)
  refine ⟨hx, by simp [World.setCell, Array.getElem?_modify, hx], (hk2.block Z (lt_of_blk hz) (by simp; omega)).trans hz, hr.other hk2 hx tCt_r tCt_b, ha1.keepS hk2 (fun b hb e => ?_), (h.la.ki hki).ki hki2, hO.keepS hk2 (fun b hb e => ?_), hrc1.keepS hk2 (fun b hb cs f e => ?_), (h.k.fresh hG.keepsO (fun b hb => .inr (by have := hge b hb; omega))).fresh hk2 (fun b hb => .inr (by simp only [List.mem_singleton] at hb; omega)), h1, h2, h3⟩
  · simp only [List.mem_singleton] at hb; have := h.a.ge _ e; omega
  · simp only [List.mem_singleton] at hb; have := hO.ge _ e; omega
  · simp only [List.mem_singleton] at hb; subst hb; rw [hx] at e; cases e
end DcS
theorem LA.lrd {w : World} {X : List AnV} {Y : List Ans} (h : LA w X Y) : LRd w X Y := ⟨h.1, fun k x y h1 h2 => (h.2 k x y h1 h2).r⟩
/-- A certificate in blocks of the call's own. -/
structure CtO (w : World) (B : Nat) (x : CtV) (c : Ct) (XA : List AnV) (XC : List ClV) : Prop where
  im : x.im = c.im
  is : x.is = c.is
  s0 : x.s0 = c.st.1
  s1 : x.s1 = c.st.2.1
  s2 : x.s2 = c.st.2.2
  a : shA.O w B tA (slv x.va) XA
  la : LA w XA c.an
  cc : shC.O w B tC (slv x.vc) XC
  rc : Rows' w XC c.cl
theorem CtO.w {w : World} {B : Nat} {x : CtV} {c : Ct} {XA : List AnV} {XC : List ClV} (h : CtO w B x c XA XC) : CtW w x c := ⟨h.im, h.is, h.s0, h.s1, h.s2, ⟨XA, h.a.r, h.la.lrd⟩, h.rc.lc h.cc.r⟩
theorem loadCt7 (w : World) (g : Nat) (t : TypeId) (x0 x1 x2 x3 x4 x5 x6 : Value) (f : Nat × Nat) (hg : w.heap[g]? = some (.cells #[x0, x1, x2, x3, x4, x5, x6] t f)) : (loadVar tCt ⟨g, 0, none⟩).run Tryz.prog w = .ok (.agg #[x0, x1, x2, x3, x4, x5, x6]) w :=
  run_loadVar_row w g t tCt #[x0, x1, x2, x3, x4, x5, x6] f _ hg Tryz.underlying32 rfl (show (Tryz.prog.info? tCt).map (·.size) = some 7 by kernel_rfl)
theorem results_ct7 {fn : Func} {p u : Tmp} (h : fn.results = #[.cell p tCt, .tmp u]) (tmps : Array Value) (w : World) (g : Nat) (t : TypeId) (x0 x1 x2 x3 x4 x5 x6 : Value) (f : Nat × Nat) (hp : tmps.getD p undef = .pointer (some ⟨g, 0, none⟩))
    (hg : w.heap[g]? = some (.cells #[x0, x1, x2, x3, x4, x5, x6] t f)) : (results fn tmps).run Tryz.prog w = .ok (.tuple #[.agg #[x0, x1, x2, x3, x4, x5, x6], tmps.getD u undef]) w := by
  have hp' : tmps[p]?.getD undef = .pointer (some ⟨g, 0, none⟩) := by simpa using hp
  simp [results, h, hp', asAddr, loadCt7 w g t x0 x1 x2 x3 x4 x5 x6 f hg]
def zeroCt : CtV := ⟨0, 0, 0, 0, 0, (none, 0, 0), (none, 0, 0)⟩
/-- What Decode hands back. -/
def DecP (w : World) (l : List UInt8) (e : Ending) (w' : World) : Prop :=
  (decS l = none ∧ e = .returned (.tuple #[ctV zeroCt, .int .i64 11]) ∧ Keeps [] w w') ∨
  (∃ (x : CtV) (c : Ct) (XA : List AnV) (XC : List ClV), decS l = some c ∧ e = .returned (.tuple #[ctV x, .int .i64 0]) ∧ CtO w' w.heap.size x c XA XC ∧ Keeps [] w w')
set_option maxRecDepth 100000 in
set_option maxHeartbeats 20000000 in
theorem decodeS_c (w : World) (v0 : Value) (l : List UInt8) (h : SlB w v0 l) (hl : l.length ≤ 100000000000) (hwt : (dCt l).wt ≤ 140737488354000) (hfit : (dCt l).Fit) :
    Calls Tryz.prog 8 #[v0] w (DecP w l) := by
  obtain ⟨a0, c0, rfl⟩ := h.form
  obtain ⟨ML, hML⟩ : ∃ n, l.length = n := ⟨_, rfl⟩
  have hkZ : Keeps [] w (w.alloc (.cells #[.int .i64 0, .int .i64 0, .int .i64 0, .int .u64 0, .int .i64 0, .slice none 0 0, .slice none 0 0] tCt)) := (Keeps.refl _ _).alloc _
  have hbZ := heap_alloc_new w (.cells #[.int .i64 0, .int .i64 0, .int .i64 0, .int .u64 0, .int .i64 0, .slice none 0 0, .slice none 0 0] tCt)
  have hkE : Keeps [] w ((w.alloc (.cells #[.int .i64 0, .int .i64 0, .int .i64 0, .int .u64 0, .int .i64 0, .slice none 0 0, .slice none 0 0] tCt)).alloc (.cells #[] 5)) := hkZ.alloc _
  have hbZE := (((Keeps.refl [] (w.alloc (.cells #[.int .i64 0, .int .i64 0, .int .i64 0, .int .u64 0, .int .i64 0, .slice none 0 0, .slice none 0 0] tCt))).alloc (.cells #[] 5)).block w.heap.size (lt_of_blk hbZ) (by simp)).trans hbZ
  have hfr := Buf.fresh (w.alloc (.cells #[.int .i64 0, .int .i64 0, .int .i64 0, .int .u64 0, .int .i64 0, .slice none 0 0, .slice none 0 0] tCt))
  obtain ⟨Z, hZ⟩ : ∃ X, w.heap.size = X := ⟨_, rfl⟩
  have hzZ : (w.alloc (.cells #[.int .i64 0, .int .i64 0, .int .i64 0, .int .u64 0, .int .i64 0, .slice none 0 0, .slice none 0 0] tCt)).heap.size = Z + 1 := by simp [hZ]
  rw [hzZ] at hfr
  rw [hZ] at hbZE
  have h1 := h.keeps hkE
  have hsE : Z + 1 ≤ ((w.alloc (.cells #[.int .i64 0, .int .i64 0, .int .i64 0, .int .u64 0, .int .i64 0, .slice none 0 0, .slice none 0 0] tCt)).alloc (.cells #[] 5)).heap.size := by simp [hZ]
  rw [hML] at h h1 hl ⊢
  unfold DecP
  replace h := Lib.hid h
  replace h1 := Lib.hid h1
  replace hfr := Lib.hid hfr
  replace hkE := Lib.hid hkE
  replace hbZE := Lib.hid hbZE
  replace hML := Lib.hid hML
  replace hwt := Lib.hid hwt
  replace hfit := Lib.hid hfit
  clear hkZ hbZ
  go_enter Tryz.func8, Tryz.ntmps8
  go_upto_region 1 with fail
  replace hZ := Lib.hid hZ
  go_upto_region 2 with (first
    | (at_builtin; (refine wpl_appB _ (Z + 1) (.slice (some ⟨Z + 1, 0, none⟩) 0 0) [] rfl (.tmp 10) (.tmp 11) rfl rfl _ l rfl hfr.out h1.out (by simp [hML.out]; omega) hsE ?_; intro v2 w2 hB2 hG2; have hk2 := Lib.hid (hG2.keeps hkE.out (fun b hb => (by have hz := hZ.out; simp [Value.ownBlock] at hb; omega))); have hbZ2 := Lib.hid ((hG2.keepsO.block Z (lt_of_blk hbZE.out) (fun hm => by simp [Value.ownBlock] at hm)).trans hbZE.out); have hS2 := hB2.slV; obtain ⟨a2, c2, rfl⟩ := hS2.form; rw [List.nil_append] at hS2 ⊢; rw [hML.out] at hS2 ⊢; replace hS2 := Lib.hid hS2; clear hG2 hB2))
    | fail)
  have hS3 := hS2.out.keeps ((Keeps.refl [] w2).alloc (.cells #[.slice a2 ML c2, .int .i64 0] tRr))
  have hR3 : RrS (w2.alloc (.cells #[.slice a2 ML c2, .int .i64 0] tRr)) w2.heap.size (l, 0) := ⟨_, heap_alloc_new w2 _, hS3⟩
  have hk3 := hk2.out.alloc (.cells #[.slice a2 ML c2, .int .i64 0] tRr)
  have hZ3 := (((Keeps.refl [] w2).alloc (.cells #[.slice a2 ML c2, .int .i64 0] tRr)).block Z (lt_of_blk hbZ2.out) (by simp)).trans hbZ2.out
  have hZbr : Z < w2.heap.size := lt_of_blk hbZ2.out
  have hz3 : (w2.alloc (.cells #[.slice a2 ML c2, .int .i64 0] tRr)).heap.size = w2.heap.size + 1 := by simp
  generalize (w2.alloc (.cells #[.slice a2 ML c2, .int .i64 0] tRr)) = W3 at *
  obtain ⟨br, hbr⟩ : ∃ b, w2.heap.size = b := ⟨_, rfl⟩
  rw [hbr] at hR3 hZbr hz3 ⊢
  have hkX := (Keeps.refl [] W3).alloc (.cells #[.int .i64 0, .int .i64 0, .int .i64 0, .int .u64 0, .int .i64 0, .slice none 0 0, .slice none 0 0] tCt)
  have hX4 := heap_alloc_new W3 (.cells #[.int .i64 0, .int .i64 0, .int .i64 0, .int .u64 0, .int .i64 0, .slice none 0 0, .slice none 0 0] tCt)
  rw [hz3] at hX4
  have hD0 : DcS w (W3.alloc (.cells #[.int .i64 0, .int .i64 0, .int .i64 0, .int .u64 0, .int .i64 0, .slice none 0 0, .slice none 0 0] tCt)) Z (br + 1) br (l, 0) 0 0 (0, 0, 0) (none, 0, 0) (none, 0, 0) [] [] [] [] := ⟨hX4, (hkX.block Z (lt_of_blk hZ3) (by simp)).trans hZ3, hR3.keeps hkX, Sh.O.nil _ _ _ _, LA.nil _, Sh.O.nil _ _ _ _, ⟨rfl, fun j x p h => by simp at h⟩, hk3.trans hkX, hZbr, by omega, Nat.le_of_eq hZ.out⟩
  replace hbr := Lib.hid hbr
  replace hz3 := Lib.hid hz3
  have hD := Lib.hid hD0
  clear hS3 hR3 hk3 hZ3 hkX hX4 hD0 hk2 hbZ2 hS2 hbZE hkE hfr h1
  go_upto_region 3 with fail
  rw [hz3.out]
  generalize (W3.alloc (.cells #[.int .i64 0, .int .i64 0, .int .i64 0, .int .u64 0, .int .i64 0, .slice none 0 0, .slice none 0 0] tCt)) = W4 at *
  obtain ⟨X, hX⟩ : ∃ X, br + 1 = X := ⟨_, rfl⟩
  rw [hX] at hD ⊢
  replace hX := Lib.hid hX
  obtain ⟨⟨z0, s1⟩, hp1⟩ : ∃ p, rI (l, 0) = p := ⟨_, rfl⟩
  obtain ⟨⟨z1, s2⟩, hp2⟩ : ∃ p, rI s1 = p := ⟨_, rfl⟩
  obtain ⟨⟨⟨n0, n1, n2⟩, s3⟩, hp3⟩ : ∃ p, rX s2 = p := ⟨_, rfl⟩
  obtain ⟨⟨N, s4⟩, hp4⟩ : ∃ p, rCS 1024 s3 = p := ⟨_, rfl⟩
  obtain ⟨⟨YY, s5⟩, hp5⟩ : ∃ p, rYc N s4 [] = p := ⟨_, rfl⟩
  obtain ⟨⟨M, s6⟩, hp6⟩ : ∃ p, rCS 1024 s5 = p := ⟨_, rfl⟩
  obtain ⟨⟨PP, s7⟩, hp7⟩ : ∃ p, rPc M s6 [] = p := ⟨_, rfl⟩
  have hdY : dY l = (YY, s5) := by unfold dY; rw [hp1]; simp only; rw [hp2]; simp only; rw [hp3]; simp only; rw [hp4]; exact hp5
  have hdP : dP l = (PP, s7) := by unfold dP; rw [hdY]; simp only; rw [hp6]; exact hp7
  have hdC : dCt l = ⟨z0, z1, (n0, n1, n2), YY, PP⟩ := by unfold dCt; rw [hdY, hdP, hp1]; simp only; rw [hp2]; simp only; rw [hp3]
  have hdec : decS l = if s7.2 = 0 ∧ doneE s7.1 s7.2 = 0 ∧ encCt ⟨z0, z1, (n0, n1, n2), YY, PP⟩ = l then some ⟨z0, z1, (n0, n1, n2), YY, PP⟩ else none := by unfold decS; rw [hdP, hdC]
  rw [hdC] at hwt hfit
  have hN1 : N ≤ 1024 := by have := rCS_le 1024 s3; rw [hp4] at this; exact this
  have hM1 : M ≤ 1024 := by have := rCS_le 1024 s5; rw [hp6] at this; exact this
  have hcI0 := fun W h => intRS_c W br (l, 0) h
  have hcI1 := fun W h => intRS_c W br s1 h
  have hcX := fun W h => getNeed_c W br s2 h
  have hcN := fun W h => countRX_c W br s3 h
  have hcM := fun W h => countRX_c W br s5 h
  have hcD := fun W h => doneRS_c W br s7 h
  rw [hp1] at hcI0
  rw [hp2] at hcI1
  rw [hp3] at hcX
  rw [hp4] at hcN
  rw [hp6] at hcM
  simp only [tV] at hcI0 hcI1 hcX hcN hcM
  replace hcI0 := Lib.hid hcI0
  replace hcI1 := Lib.hid hcI1
  replace hcX := Lib.hid hcX
  replace hcN := Lib.hid hcN
  replace hcM := Lib.hid hcM
  replace hcD := Lib.hid hcD
  replace hp5 := Lib.hid hp5
  replace hp7 := Lib.hid hp7
  replace hdec := Lib.hid hdec
  clear hp1 hp2 hp3 hp4 hp6 hdY hdP hdC
  have hcall := hcI0.out _ (hD.out.r)
  replace hcall := Lib.hid hcall
  go_wp2_with fail
  refine hcall.out.mono ?_
  rintro e v1 ⟨rfl, hRn, hkn⟩
  have hDn := hD.out.ref hkn hRn
  obtain ⟨c0, c1, c2, c3, c4, c5, c6, cf, cl⟩ := cl7 hDn.x
  have hks : Keeps [X] v1 (v1.setCell ⟨X, 0, none⟩ (.int .i64 z0)) := by
    refine (Keeps.refl _ _).setCell ?_ _ <;> exact .inr (by simp)
  have hxs : (v1.setCell ⟨X, 0, none⟩ (.int .i64 z0)).heap[X]? = some (.cells #[.int .i64 z0, .int .i64 0, .int .i64 0, .int .u64 0, .int .i64 0, .slice none 0 0, .slice none 0 0] tCt (0, 0)) := by
    have hz := hDn.x
    simp only [slv] at hz
    simp [World.setCell, Array.getElem?_modify, hz]
  have hDs := hDn.head hks (j0 := z0) (j1 := 0) (st' := (0, 0, 0)) hxs
  clear hD hRn hkn hcall hDn hks hxs
  have hD := Lib.hid hDs
  clear hDs
  go_upto_region 4 with fail
  generalize (v1.setCell ⟨X, 0, none⟩ (.int .i64 z0)) = W5 at *
  clear c0 c1 c2 c3 c4 c5 c6 cf cl
  have hcall := hcI1.out _ (hD.out.r)
  replace hcall := Lib.hid hcall
  go_wp2_with fail
  refine hcall.out.mono ?_
  rintro e v2 ⟨rfl, hRn, hkn⟩
  have hDn := hD.out.ref hkn hRn
  obtain ⟨c0, c1, c2, c3, c4, c5, c6, cf, cl⟩ := cl7 hDn.x
  have hks : Keeps [X] v2 (v2.setCell ⟨X, 1, none⟩ (.int .i64 z1)) := by
    refine (Keeps.refl _ _).setCell ?_ _ <;> exact .inr (by simp)
  have hxs : (v2.setCell ⟨X, 1, none⟩ (.int .i64 z1)).heap[X]? = some (.cells #[.int .i64 z0, .int .i64 z1, .int .i64 0, .int .u64 0, .int .i64 0, .slice none 0 0, .slice none 0 0] tCt (0, 0)) := by
    have hz := hDn.x
    simp only [slv] at hz
    simp [World.setCell, Array.getElem?_modify, hz]
  have hDs := hDn.head hks (j0 := z0) (j1 := z1) (st' := (0, 0, 0)) hxs
  clear hD hRn hkn hcall hDn hks hxs
  have hD := Lib.hid hDs
  clear hDs
  go_upto_region 5 with fail
  generalize (v2.setCell ⟨X, 1, none⟩ (.int .i64 z1)) = W6 at *
  clear c0 c1 c2 c3 c4 c5 c6 cf cl
  have hcall := hcX.out _ (hD.out.r)
  replace hcall := Lib.hid hcall
  go_wp2_with fail
  refine hcall.out.mono ?_
  rintro e v3 ⟨rfl, hRn, hkn⟩
  have hDn := hD.out.ref hkn hRn
  obtain ⟨c0, c1, c2, c3, c4, c5, c6, cf, cl⟩ := cl7 hDn.x
  have hks : Keeps [X] v3 (((v3.setCell ⟨X, 2, none⟩ (.int .i64 n0)).setCell ⟨X, 3, none⟩ (.int .u64 n1)).setCell ⟨X, 4, none⟩ (.int .i64 n2)) := by
    refine (((Keeps.refl _ _).setCell ?_ _).setCell ?_ _).setCell ?_ _ <;> exact .inr (by simp)
  have hxs : (((v3.setCell ⟨X, 2, none⟩ (.int .i64 n0)).setCell ⟨X, 3, none⟩ (.int .u64 n1)).setCell ⟨X, 4, none⟩ (.int .i64 n2)).heap[X]? = some (.cells #[.int .i64 z0, .int .i64 z1, .int .i64 n0, .int .u64 n1, .int .i64 n2, .slice none 0 0, .slice none 0 0] tCt (0, 0)) := by
    have hz := hDn.x
    simp only [slv] at hz
    simp [World.setCell, Array.getElem?_modify, hz]
  have hDs := hDn.head hks (j0 := z0) (j1 := z1) (st' := (n0, n1, n2)) hxs
  clear hD hRn hkn hcall hDn hks hxs
  have hD := Lib.hid hDs
  clear hDs
  go_upto_region 6 with fail
  generalize (((v3.setCell ⟨X, 2, none⟩ (.int .i64 n0)).setCell ⟨X, 3, none⟩ (.int .u64 n1)).setCell ⟨X, 4, none⟩ (.int .i64 n2)) = W7 at *
  clear c0 c1 c2 c3 c4 c5 c6 cf cl
  have hcall := hcN.out _ hD.out.r
  replace hcall := Lib.hid hcall
  go_wp2_with fail
  refine hcall.out.mono ?_
  rintro e w8 ⟨rfl, hRn, hkn⟩
  have hDn := hD.out.ref hkn hRn
  clear hD hcall hRn hkn hcI0 hcI1 hcX hcN
  have hD := Lib.hid hDn
  clear hDn
  (go_upto_region 7 with fail; iterate 7 go_step)
  go_cut [7] from 10 to 102 (fun _ wx => ∃ (aa : Option Addr) (ac : Nat) (XA : List AnV), Hid (XA.length ≤ 1024) ∧ Hid (DcS w wx Z X br s5 z0 z1 (n0, n1, n2) (aa, XA.length, ac) (none, 0, 0) XA YY [] []))
  case first =>
    go_wp2
    go_loopw [7] (fun i wr => ∃ (k : Nat) (aa : Option Addr) (ac : Nat) (XA : List AnV) (Y : List Ans) (sk : RS), i = .int .i64 k ∧ k ≤ N ∧ Hid (DcS w wr Z X br sk z0 z1 (n0, n1, n2) (aa, XA.length, ac) (none, 0, 0) XA Y [] []) ∧ Hid (XA.length ≤ k) ∧ Hid (rYc (N - k) sk Y = (YY, s5))) (fun i _ => N - (intOf i).toNat)
    case atStart => exact ⟨0, none, 0, [], [], s4, rfl, by omega, hD, Lib.hid (by simp), hp5⟩
    case round =>
      clear hD
      obtain ⟨k, aa, ac, XA, Y, sk, rfl, hk, hD, hLk, hrk⟩ := hrel
      obtain ⟨vr, d0, d1, df0, df1, dl⟩ := hD.out.r.cell
      obtain ⟨NA, hNA⟩ : ∃ n, XA.length = n := ⟨_, rfl⟩
      rw [hNA] at hD hLk
      replace hNA := Lib.hid hNA
      by_cases hlt2 : k < N
      · have hlt3 : (k : Int) < N := by omega
        obtain ⟨j, hj⟩ : ∃ j, N - k = j + 1 := ⟨N - k - 1, by omega⟩
        have hj2 : N - (k + 1) = j := by omega
        by_cases hs : sk.2 = 0
        · have hsb : (sk.2 == 0) = true := by simpa using hs
          have hstep : rYc (N - (k + 1)) (rAs sk).2 (Y ++ [(rAs sk).1]) = (YY, s5) := by
            have := hrk.out
            rw [hj] at this
            rw [hj2]
            unfold rYc at this
            rw [if_pos hs] at this
            exact this
          have hcall := getAnswer_c wr.drew br sk (hD.out.r.keeps (Keeps.refl [] wr).drew)
          unfold AnsP at hcall
          have hN2 : NA ≤ 1024 := by have := hLk.out; omega
          obtain ⟨c0, c1, c2, c3, c4, c5, c6, cf, cl⟩ := cl7 hD.out.x
          simp only [slv] at c0 c1 c2 c3 c4 c5 c6
          have hXbr : X ≠ br := by have := hD.out.bx; omega
          replace hXbr := Lib.hid hXbr
          replace hcall := Lib.hid hcall
          replace hstep := Lib.hid hstep
          replace hs := Lib.hid hs
          replace hj := Lib.hid hj
          replace hj2 := Lib.hid hj2
          have hq5 : Hid (∀ j : Nat, j ≠ 7 → ((j = 3 ∧ X = br) ∨ (j = 5 ∧ X < X) ∨ (j = 7 ∧ X = X)) → False) := Lib.hid (fun j h7 h => by
            rcases h with ⟨_, h⟩ | ⟨_, h⟩ | ⟨h, _⟩
            · exact hXbr.out h
            · exact absurd h (Nat.lt_irrefl _)
            · exact h7 h)
          go_upto_region 10 with fail
          refine Free.wp_region_chain (fun i => i == 3 || i == 4 || i == 5 || i == 7) (fun i => true) (fun j b => (j = 3 ∧ b = br) ∨ (j = 5 ∧ X < b) ∨ (j = 7 ∧ b = X)) (by kernel_rfl) (by kernel_rfl) (by kernel_rfl) ?_
          (repeat (first | (apply Free.cw_pure rfl rfl; (intro w'; go_simp <;> exact rfl); go_frame) | (apply Free.cw_steady rfl rfl rfl; (intro w' hS; have q0 := Free.sx_cell hS c5 (fun j hp hT => hq5.out j (fun e => (by subst e; exact absurd hp (by decide +kernel))) hT); go_simp <;> exact rfl); go_frame) | (refine Free.cw_skip rfl ?_; go_frame)))
          refine Free.cw_loud rfl rfl (fun K hK => ?_)
          go_wp2_with fail
          refine hcall.out.mono ?_
          rintro e w9 ⟨⟨y0, y1, y2, y3, y4, y5, y6, y7, y8, y9⟩, rfl, hy, hyO, hRn, hkn⟩
          refine hK _ _ rfl (Free.KeepsP.of hkn (fun b hb => by simp only [List.mem_singleton] at hb; exact .inl ⟨trivial, hb⟩)) ?_
          clear hK K hcall
          have hDn := hD.out.keeps (Keeps.refl [] wr).drew |>.ref hkn hRn
          have hInA : InA w9 ⟨y0, y1, y2, y3, y4, y5, y6, y7, y8, y9⟩ (rAs sk).1 := ⟨hy.m, hy.ow, hy.n, hy.ep, hy.kn, hy.rt, hy.lu, ⟨_, hyO⟩⟩
          have hkM := (Keeps.refl [] w9).alloc (.cells #[.int .i64 y0, .int .i64 y1, .int .u64 y2, .int .i64 y3, .bool y4, .bool y5, .int .i64 y6, .slice y7 y8 y9] tA)
          have hmade := Sh.R.made shA w9 [(⟨y0, y1, y2, y3, y4, y5, y6, y7, y8, y9⟩ : AnV)] #[.int .i64 y0, .int .i64 y1, .int .u64 y2, .int .i64 y3, .bool y4, .bool y5, .int .i64 y6, .slice y7 y8 y9] tA rfl (by simp [maxLen]) 1 rfl
          have hDM := hDn.keeps hkM
          have hIM := hInA.ki hkM.ki0
          have hszM : X + 1 ≤ (w9.alloc (.cells #[.int .i64 y0, .int .i64 y1, .int .u64 y2, .int .i64 y3, .bool y4, .bool y5, .int .i64 y6, .slice y7 y8 y9] tA)).heap.size := lt_of_blk hDM.x
          replace hmade := Lib.hid hmade
          replace hDM := Lib.hid hDM
          replace hIM := Lib.hid hIM
          replace hNA := Lib.hid hNA.out
          clear hDn hInA hkM hy hyO hRn hkn hD
          simp only [AnV.v]
          (repeat (apply Free.cw_pure rfl rfl; (intro w'; go_simp <;> exact rfl); go_frame))
          refine Free.cw_loud rfl rfl (fun K hK => ?_)
          go_wp2
          refine hK _ _ rfl (Free.KeepsP.alloc _ _ _) ?_
          clear hK K
          (repeat (apply Free.cw_pure rfl rfl; (intro w'; go_simp <;> exact rfl); go_frame))
          refine Free.cw_loud rfl rfl (fun K hK => ?_)
          refine Sh.owp_app shA (X + 1) infoA rfl Tryz.underlying29 (.slice aa NA ac) (.slice (some ⟨w9.heap.size, 0, none⟩) 1 1) XA [(⟨y0, y1, y2, y3, y4, y5, y6, y7, y8, y9⟩ : AnV)] (.tmp 42) (.tmp 45) rfl rfl rfl hDM.out.a hmade.out (by rw [hNA.out]; simp only [List.length_singleton]; omega) hszM ?_
          intro vz wz hOz hGz
          obtain ⟨za, zc, rfl⟩ := hOz.form
          have hlz : (XA ++ [(⟨y0, y1, y2, y3, y4, y5, y6, y7, y8, y9⟩ : AnV)]).length = NA + 1 := by rw [List.length_append, hNA.out]; rfl
          rw [hlz] at hOz hGz ⊢
          obtain ⟨hxz, hkz, hgz, hDz⟩ := hDM.out.pushA (v := (za, NA + 1, zc)) hOz hGz hIM.out
          refine hK _ _ rfl (Free.KeepsP.of hGz.keepsO (fun b hb => .inr (.inl ⟨rfl, hgz b hb⟩))) ?_
          clear hK K
          obtain ⟨b0, b1, b2, b3, b4, b5, b6, bf, bl⟩ := cl7 hxz
          replace hkz := Lib.hid hkz
          replace hDz := Lib.hid hDz
          replace hlz := Lib.hid hlz
          clear hOz hGz hgz hDM hIM hmade hxz
          (repeat (apply Free.cw_pure rfl rfl; (intro w'; go_simp <;> exact rfl); go_frame))
          refine Free.cw_loud rfl rfl (fun K hK => ?_)
          go_wp2
          refine hK _ _ rfl (Free.KeepsP.of hkz.out (fun b hb => .inr (.inr ⟨trivial, by simpa using hb⟩))) ?_
          clear hK K
          (repeat (apply Free.cw_pure rfl rfl; (intro w'; go_simp <;> exact rfl); go_frame))
          refine Free.cw_nil ?_
          go_wp2
          go_roundw
          case rel => exact ⟨k + 1, za, zc, XA ++ [⟨y0, y1, y2, y3, y4, y5, y6, y7, y8, y9⟩], Y ++ [(rAs sk).1], (rAs sk).2, rfl, by omega, by rw [hlz.out]; exact hDz, Lib.hid (by rw [hlz.out]; have := hLk.out; omega), Lib.hid hstep.out⟩
          case measure => simp [intOf]; omega
        · have hsb : (sk.2 == 0) = false := by simpa using hs
          have hend : Y = YY ∧ sk = s5 := by
            have := hrk.out
            rw [hj] at this
            unfold rYc at this
            rw [if_neg hs] at this
            exact Prod.mk.inj this
          have hDe : Hid (DcS w wr Z X br s5 z0 z1 (n0, n1, n2) (aa, XA.length, ac) (none, 0, 0) XA YY [] []) := Lib.hid (by rw [hNA.out, ← hend.1, ← hend.2]; exact hD.out)
          have hLe : Hid (XA.length ≤ 1024) := Lib.hid (by have h1 := hLk.out; have h2 := hNA.out; omega)
          replace hs := Lib.hid hs
          replace hend := Lib.hid hend
          replace hj := Lib.hid hj
          replace hj2 := Lib.hid hj2
          go_wp2
          go_meet
          case rel => exact ⟨aa, ac, XA, hLe, hDe⟩
      · have hlt3 : ¬ ((k : Int) < N) := by omega
        have hlt4 : decide ((k : Int) < (N : Int)) = false := by simp; omega
        have hend : Y = YY ∧ sk = s5 := by
          have := hrk.out
          rw [show N - k = 0 by omega] at this
          exact Prod.mk.inj this
        have hDe : Hid (DcS w wr Z X br s5 z0 z1 (n0, n1, n2) (aa, XA.length, ac) (none, 0, 0) XA YY [] []) := Lib.hid (by rw [hNA.out, ← hend.1, ← hend.2]; exact hD.out)
        have hLe : Hid (XA.length ≤ 1024) := Lib.hid (by have h1 := hLk.out; have h2 := hNA.out; omega)
        replace hend := Lib.hid hend
        go_wp2
        go_meet
        case rel => exact ⟨aa, ac, XA, hLe, hDe⟩
  case rest =>
    clear hD
    obtain ⟨aa, ac, XA, hLA, hD⟩ := hcut
    obtain ⟨NA, hNA⟩ : ∃ n, XA.length = n := ⟨_, rfl⟩
    rw [hNA] at hD hLA
    replace hNA := Lib.hid hNA
    have hcall := hcM.out _ hD.out.r
    replace hcall := Lib.hid hcall
    go_wp2_with fail
    refine hcall.out.mono ?_
    rintro e wm ⟨rfl, hRn, hkn⟩
    have hDn := hD.out.ref hkn hRn
    clear hD hcall hRn hkn hcM
    have hD := Lib.hid hDn
    clear hDn
    (go_upto_region 12 with fail; iterate 7 go_step)
    go_cut [8, 9] from 10 to 102 (fun _ _ wx => ∃ (ca : Option Addr) (cc : Nat) (XC : List ClV), Hid (XC.length ≤ 1024) ∧ Hid (DcS w wx Z X br s7 z0 z1 (n0, n1, n2) (aa, NA, ac) (ca, XC.length, cc) XA YY XC PP))
    case first =>
      go_wp2
      go_loopw [8] (fun i wr => ∃ (k : Nat) (ca : Option Addr) (cc : Nat) (XC : List ClV) (P : List PCl) (sk : RS), i = .int .i64 k ∧ k ≤ M ∧ Hid (DcS w wr Z X br sk z0 z1 (n0, n1, n2) (aa, NA, ac) (ca, XC.length, cc) XA YY XC P) ∧ Hid (XC.length ≤ k) ∧ Hid (rPc (M - k) sk P = (PP, s7))) (fun i _ => M - (intOf i).toNat)
      case atStart => exact ⟨0, none, 0, [], [], s6, rfl, by omega, hD, Lib.hid (by simp), hp7⟩
      case round =>
        clear hD
        obtain ⟨k, ca, cc, XC, P, sk, rfl, hk, hD, hLk, hrk⟩ := hrel
        obtain ⟨vr, d0, d1, df0, df1, dl⟩ := hD.out.r.cell
        obtain ⟨NC, hNC⟩ : ∃ n, XC.length = n := ⟨_, rfl⟩
        rw [hNC] at hD hLk
        replace hNC := Lib.hid hNC
        by_cases hlt2 : k < M
        · have hlt3 : (k : Int) < M := by omega
          obtain ⟨j, hj⟩ : ∃ j, M - k = j + 1 := ⟨M - k - 1, by omega⟩
          have hj2 : M - (k + 1) = j := by omega
          by_cases hs : sk.2 = 0
          · have hsb : (sk.2 == 0) = true := by simpa using hs
            have hstep : rPc (M - (k + 1)) (rPs sk).2 (P ++ [(rPs sk).1]) = (PP, s7) := by
              have := hrk.out
              rw [hj] at this
              rw [hj2]
              unfold rPc at this
              rw [if_pos hs] at this
              exact this
            obtain ⟨⟨p0, t1⟩, hq1⟩ : ∃ p, rI sk = p := ⟨_, rfl⟩
            obtain ⟨⟨p1, t2⟩, hq2⟩ : ∃ p, rI t1 = p := ⟨_, rfl⟩
            obtain ⟨⟨L1, t3⟩, hq3⟩ : ∃ p, rNs t2 = p := ⟨_, rfl⟩
            obtain ⟨⟨L2, t4⟩, hq4⟩ : ∃ p, rNs t3 = p := ⟨_, rfl⟩
            obtain ⟨⟨L3, t5⟩, hq5⟩ : ∃ p, rNs t4 = p := ⟨_, rfl⟩
            have hrp : rPs sk = (⟨p0, p1, L1, L2, L3⟩, t5) := by unfold rPs; rw [hq1]; simp only; rw [hq2]; simp only; rw [hq3]; simp only; rw [hq4]; simp only; rw [hq5]
            rw [hrp] at hstep
            have hcA := fun W h => intRS_c W br sk h
            have hcB := fun W h => intRS_c W br t1 h
            have hc3 := fun W h => getNeeds_c W br t2 h
            have hc4 := fun W h => getNeeds_c W br t3 h
            have hc5 := fun W h => getNeeds_c W br t4 h
            rw [hq1] at hcA
            rw [hq2] at hcB
            rw [hq3] at hc3
            rw [hq4] at hc4
            rw [hq5] at hc5
            simp only at hcA hcB hc3 hc4 hc5 hstep
            have hN2 : NC ≤ 1024 := by have := hLk.out; omega
            have hR := Lib.hid hD.out.r
            have hkp : Hid (Keeps [br] wr wr) := Lib.hid (Keeps.refl _ _)
            have hXlt : Hid (X < wr.heap.size) := Lib.hid (lt_of_blk hD.out.x)
            replace hcA := Lib.hid hcA
            replace hcB := Lib.hid hcB
            replace hc3 := Lib.hid hc3
            replace hc4 := Lib.hid hc4
            replace hc5 := Lib.hid hc5
            replace hstep := Lib.hid hstep
            replace hs := Lib.hid hs
            replace hj := Lib.hid hj
            replace hj2 := Lib.hid hj2
            clear hq1 hq2 hq3 hq4 hq5 hrp
            go_upto_region 15 with fail
            go_wp2_with fail
            refine (hcA.out _ hR.out).mono ?_
            rintro e wi1 ⟨rfl, hR1, hk1⟩
            have hkA1 := (Keeps.refl [] wi1).alloc (.cells #[.int .i64 p0, .int .i64 0, .slice none 0 0, .slice none 0 0, .slice none 0 0] tC)
            have hX1 := heap_alloc_new wi1 (.cells #[.int .i64 p0, .int .i64 0, .slice none 0 0, .slice none 0 0, .slice none 0 0] tC)
            have hR2 := hR1.keeps hkA1
            have hXb1 := hR2.ne hX1 tC_r
            have hkX1 := (hkp.out.trans hk1).trans hkA1.of_nil
            have hwX1 : wr.heap.size ≤ wi1.heap.size := (hkp.out.trans hk1).size
            clear hR 
            go_upto_region 16 with fail
            generalize (wi1.alloc (.cells #[.int .i64 p0, .int .i64 0, .slice none 0 0, .slice none 0 0, .slice none 0 0] tC)) = Wl0 at *
            obtain ⟨K, hKe⟩ : ∃ X, wi1.heap.size = X := ⟨_, rfl⟩
            rw [hKe] at hX1 hXb1 hwX1  ⊢
            replace hKe := Lib.hid hKe
            have hK := Lib.hid hX1
            have hKb := Lib.hid hXb1
            have hwK := Lib.hid hwX1
            have hkK := Lib.hid hkX1
            have hR := Lib.hid hR2
            clear hX1 hXb1 hwX1 hkX1 hR1 hR2 hk1 hkA1
            clear d0 d1 df0 df1 dl
            obtain ⟨c0, c1, c2, c3, c4, cf, cl⟩ := cl5 hK.out
            go_wp2_with fail
            refine (hcB.out _ hR.out).mono ?_
            rintro e vl1 ⟨rfl, hRl1, hkl1⟩
            clear c0 c1 c2 c3 c4 cf cl
            have hXl1 := (hkl1.block K (lt_of_blk hK.out) (by simpa using hKb.out)).trans hK.out
            have hsl1 : Keeps [K] vl1 (vl1.setCell ⟨K, 1, none⟩ (.int .i64 p1)) := (Keeps.refl _ _).setCell (.inr (by simp)) _
            have hYl1 : (vl1.setCell ⟨K, 1, none⟩ (.int .i64 p1)).heap[K]? = some (.cells #[.int .i64 p0, .int .i64 p1, .slice none 0 0, .slice none 0 0, .slice none 0 0] tC (0, 0)) := by simp [World.setCell, Array.getElem?_modify, hXl1]
            have hRl1b := hRl1.other hsl1 hXl1 tC_r tC_b
            have hkn := Lib.hid ((hkK.out.trans hkl1).fresh hsl1 (fun b hb => by simp only [List.mem_singleton] at hb; subst hb; exact .inr hwK.out))
            obtain ⟨c0, c1, c2, c3, c4, cf, cl⟩ := cl5 hXl1
            clear hK hR hkK 
            have hK := Lib.hid hYl1
            have hR := Lib.hid hRl1b
            have hkK := hkn
            clear hXl1 hsl1 hYl1 hRl1b hkn hRl1 hkl1 
            go_upto_region 17 with fail
            generalize (vl1.setCell ⟨K, 1, none⟩ (.int .i64 p1)) = Wl1 at *
            clear c0 c1 c2 c3 c4 cf cl
            obtain ⟨c0, c1, c2, c3, c4, cf, cl⟩ := cl5 hK.out
            go_wp2_with fail
            refine (hc3.out _ hR.out).mono ?_
            rintro e vv1 ⟨v, rfl, hOv, hRv, hkv⟩
            clear c0 c1 c2 c3 c4 cf cl
            obtain ⟨va1, vc1, rfl⟩ := hOv.form
            obtain ⟨vn1, hvn⟩ : ∃ n, L1.length = n := ⟨_, rfl⟩
            rw [hvn] at hOv ⊢
            have hXv := (hkv.block K (lt_of_blk hK.out) (by simpa using hKb.out)).trans hK.out
            have hsv : Keeps [K] vv1 (vv1.setCell ⟨K, 2, none⟩ (.slice va1 vn1 vc1)) := (Keeps.refl _ _).setCell (.inr (by simp)) _
            have hYv : (vv1.setCell ⟨K, 2, none⟩ (.slice va1 vn1 vc1)).heap[K]? = some (.cells #[.int .i64 p0, .int .i64 p1, .slice va1 vn1 vc1, .slice none 0 0, .slice none 0 0] tC (0, 0)) := by simp [World.setCell, Array.getElem?_modify, hXv]
            have hRw := hRv.other hsv hXv tC_r tC_b
            have hnv := (Nd.of_O hOv).keepS hsv (tag_Cl hXv)
            have hkn := Lib.hid ((hkK.out.trans hkv).fresh hsv (fun b hb => by simp only [List.mem_singleton] at hb; subst hb; exact .inr hwK.out))
            obtain ⟨c0, c1, c2, c3, c4, cf, cl⟩ := cl5 hXv
            clear hK hR hkK 
            have hK := Lib.hid hYv
            have hR := Lib.hid hRw
            have hkK := hkn
            have hn1 := Lib.hid hnv
            replace hvn := Lib.hid hvn
            clear hXv hsv hYv hRw hnv hkn hRv hkv hOv 
            go_upto_region 18 with fail
            generalize (vv1.setCell ⟨K, 2, none⟩ (.slice va1 vn1 vc1)) = Wl2 at *
            clear c0 c1 c2 c3 c4 cf cl
            obtain ⟨c0, c1, c2, c3, c4, cf, cl⟩ := cl5 hK.out
            go_wp2_with fail
            refine (hc4.out _ hR.out).mono ?_
            rintro e vv2 ⟨v, rfl, hOv, hRv, hkv⟩
            clear c0 c1 c2 c3 c4 cf cl
            obtain ⟨va2, vc2, rfl⟩ := hOv.form
            obtain ⟨vn2, hvn⟩ : ∃ n, L2.length = n := ⟨_, rfl⟩
            rw [hvn] at hOv ⊢
            have hXv := (hkv.block K (lt_of_blk hK.out) (by simpa using hKb.out)).trans hK.out
            have hsv : Keeps [K] vv2 (vv2.setCell ⟨K, 3, none⟩ (.slice va2 vn2 vc2)) := (Keeps.refl _ _).setCell (.inr (by simp)) _
            have hYv : (vv2.setCell ⟨K, 3, none⟩ (.slice va2 vn2 vc2)).heap[K]? = some (.cells #[.int .i64 p0, .int .i64 p1, .slice va1 vn1 vc1, .slice va2 vn2 vc2, .slice none 0 0] tC (0, 0)) := by simp [World.setCell, Array.getElem?_modify, hXv]
            have hRw := hRv.other hsv hXv tC_r tC_b
            have hnv := (Nd.of_O hOv).keepS hsv (tag_Cl hXv)
            have hnn1 := (hn1.out.keepS hkv (fun b hb cs f e => by simp only [List.mem_singleton] at hb; subst hb; obtain ⟨rc, hrc⟩ := hR.out.tag; rw [hrc] at e; cases e)).keepS hsv (tag_Cl hXv)
            have hkn := Lib.hid ((hkK.out.trans hkv).fresh hsv (fun b hb => by simp only [List.mem_singleton] at hb; subst hb; exact .inr hwK.out))
            obtain ⟨c0, c1, c2, c3, c4, cf, cl⟩ := cl5 hXv
            clear hK hR hkK hn1
            have hK := Lib.hid hYv
            have hR := Lib.hid hRw
            have hkK := hkn
            have hn2 := Lib.hid hnv
            have hn1 := Lib.hid hnn1
            replace hvn := Lib.hid hvn
            clear hXv hsv hYv hRw hnv hkn hRv hkv hOv hnn1
            go_upto_region 19 with fail
            generalize (vv2.setCell ⟨K, 3, none⟩ (.slice va2 vn2 vc2)) = Wl3 at *
            clear c0 c1 c2 c3 c4 cf cl
            obtain ⟨c0, c1, c2, c3, c4, cf, cl⟩ := cl5 hK.out
            go_wp2_with fail
            refine (hc5.out _ hR.out).mono ?_
            rintro e vv3 ⟨v, rfl, hOv, hRv, hkv⟩
            clear c0 c1 c2 c3 c4 cf cl
            obtain ⟨va3, vc3, rfl⟩ := hOv.form
            obtain ⟨vn3, hvn⟩ : ∃ n, L3.length = n := ⟨_, rfl⟩
            rw [hvn] at hOv ⊢
            have hXv := (hkv.block K (lt_of_blk hK.out) (by simpa using hKb.out)).trans hK.out
            have hsv : Keeps [K] vv3 (vv3.setCell ⟨K, 4, none⟩ (.slice va3 vn3 vc3)) := (Keeps.refl _ _).setCell (.inr (by simp)) _
            have hYv : (vv3.setCell ⟨K, 4, none⟩ (.slice va3 vn3 vc3)).heap[K]? = some (.cells #[.int .i64 p0, .int .i64 p1, .slice va1 vn1 vc1, .slice va2 vn2 vc2, .slice va3 vn3 vc3] tC (0, 0)) := by simp [World.setCell, Array.getElem?_modify, hXv]
            have hRw := hRv.other hsv hXv tC_r tC_b
            have hnv := (Nd.of_O hOv).keepS hsv (tag_Cl hXv)
            have hnn1 := (hn1.out.keepS hkv (fun b hb cs f e => by simp only [List.mem_singleton] at hb; subst hb; obtain ⟨rc, hrc⟩ := hR.out.tag; rw [hrc] at e; cases e)).keepS hsv (tag_Cl hXv)
            have hnn2 := (hn2.out.keepS hkv (fun b hb cs f e => by simp only [List.mem_singleton] at hb; subst hb; obtain ⟨rc, hrc⟩ := hR.out.tag; rw [hrc] at e; cases e)).keepS hsv (tag_Cl hXv)
            have hkn := Lib.hid ((hkK.out.trans hkv).fresh hsv (fun b hb => by simp only [List.mem_singleton] at hb; subst hb; exact .inr hwK.out))
            obtain ⟨c0, c1, c2, c3, c4, cf, cl⟩ := cl5 hXv
            clear hK hR hkK hn1 hn2
            have hK := Lib.hid hYv
            have hR := Lib.hid hRw
            have hkK := hkn
            have hn3 := Lib.hid hnv
            have hn1 := Lib.hid hnn1
            have hn2 := Lib.hid hnn2
            replace hvn := Lib.hid hvn
            clear hXv hsv hYv hRw hnv hkn hRv hkv hOv hnn1 hnn2
            go_upto_region 20 with fail
            generalize (vv3.setCell ⟨K, 4, none⟩ (.slice va3 vn3 vc3)) = Wl4 at *
            clear c0 c1 c2 c3 c4 cf cl
            have hDK := hD.out.ref hkK.out hR.out
            obtain ⟨k0, k1, k2, k3, k4, kf, kl⟩ := cl5 hK.out
            obtain ⟨c0, c1, c2, c3, c4, c5, c6, cf, cl⟩ := cl7 hDK.x
            simp only [slv] at c0 c1 c2 c3 c4 c5 c6
            have hkM := (Keeps.refl [] Wl4).alloc (.cells #[.int .i64 p0, .int .i64 p1, .slice va1 vn1 vc1, .slice va2 vn2 vc2, .slice va3 vn3 vc3] tC)
            have hmade := Sh.R.made shC Wl4 [(⟨p0, p1, (va1, vn1, vc1), (va2, vn2, vc2), (va3, vn3, vc3)⟩ : ClV)] #[.int .i64 p0, .int .i64 p1, .slice va1 vn1 vc1, .slice va2 vn2 vc2, .slice va3 vn3 vc3] tC rfl (by simp [maxLen]) 1 rfl
            have hDM := hDK.keeps hkM
            have hPM : CRt (Wl4.alloc (.cells #[.int .i64 p0, .int .i64 p1, .slice va1 vn1 vc1, .slice va2 vn2 vc2, .slice va3 vn3 vc3] tC)) ⟨p0, p1, (va1, vn1, vc1), (va2, vn2, vc2), (va3, vn3, vc3)⟩ ⟨p0, p1, L1, L2, L3⟩ := ⟨rfl, rfl, hn1.out.keeps hkM, hn2.out.keeps hkM, hn3.out.keeps hkM⟩
            have hszM : X + 1 ≤ (Wl4.alloc (.cells #[.int .i64 p0, .int .i64 p1, .slice va1 vn1 vc1, .slice va2 vn2 vc2, .slice va3 vn3 vc3] tC)).heap.size := lt_of_blk hDM.x
            replace hmade := Lib.hid hmade
            replace hDM := Lib.hid hDM
            replace hPM := Lib.hid hPM
            clear hDK hkM hD hR hkK hK hn1 hn2 hn3
            go_wp2_with (first
              | (at_builtin; (refine Sh.wpl_app shC (X + 1) infoC rfl Tryz.underlying30 (.slice ca NC cc) (.slice (some ⟨Wl4.heap.size, 0, none⟩) 1 1) XC [(⟨p0, p1, (va1, vn1, vc1), (va2, vn2, vc2), (va3, vn3, vc3)⟩ : ClV)] rfl _ _ rfl rfl rfl hDM.out.c hmade.out (by rw [hNC.out]; simp only [List.length_singleton]; omega) hszM ?_; intro vz wz hOz hGz; obtain ⟨za, zc, rfl⟩ := hOz.form; have hlz : (XC ++ [(⟨p0, p1, (va1, vn1, vc1), (va2, vn2, vc2), (va3, vn3, vc3)⟩ : ClV)]).length = NC + 1 := (by simp [hNC.out]); rw [hlz] at hOz hGz ⊢; obtain ⟨hxz, hDz⟩ := hDM.out.pushC (v := (za, NC + 1, zc)) hOz hGz hPM.out; obtain ⟨b0, b1, b2, b3, b4, b5, b6, bf, bl⟩ := cl7 hxz; replace hDz := Lib.hid hDz; replace hlz := Lib.hid hlz; clear hOz hGz hDM hPM hmade hxz))
              | fail)
            go_roundw
            case rel => exact ⟨k + 1, za, zc, XC ++ [⟨p0, p1, (va1, vn1, vc1), (va2, vn2, vc2), (va3, vn3, vc3)⟩], P ++ [⟨p0, p1, L1, L2, L3⟩], t5, rfl, by omega, by rw [hlz.out]; exact hDz, Lib.hid (by rw [hlz.out]; have := hLk.out; omega), hstep⟩
            case measure => simp [intOf]; omega
          · have hsb : (sk.2 == 0) = false := by simpa using hs
            have hend : P = PP ∧ sk = s7 := by
              have := hrk.out
              rw [hj] at this
              unfold rPc at this
              rw [if_neg hs] at this
              exact Prod.mk.inj this
            have hDe : Hid (DcS w wr Z X br s7 z0 z1 (n0, n1, n2) (aa, NA, ac) (ca, XC.length, cc) XA YY XC PP) := Lib.hid (by rw [hNC.out, ← hend.1, ← hend.2]; exact hD.out)
            have hLe : Hid (XC.length ≤ 1024) := Lib.hid (by have h1 := hLk.out; have h2 := hNC.out; omega)
            replace hs := Lib.hid hs
            replace hend := Lib.hid hend
            replace hj := Lib.hid hj
            replace hj2 := Lib.hid hj2
            go_wp2
            go_meet
            case rel => exact ⟨ca, cc, XC, hLe, hDe⟩
        · have hlt3 : ¬ ((k : Int) < M) := by omega
          have hlt4 : decide ((k : Int) < (M : Int)) = false := by simp; omega
          have hend : P = PP ∧ sk = s7 := by
            have := hrk.out
            rw [show M - k = 0 by omega] at this
            exact Prod.mk.inj this
          have hDe : Hid (DcS w wr Z X br s7 z0 z1 (n0, n1, n2) (aa, NA, ac) (ca, XC.length, cc) XA YY XC PP) := Lib.hid (by rw [hNC.out, ← hend.1, ← hend.2]; exact hD.out)
          have hLe : Hid (XC.length ≤ 1024) := Lib.hid (by have h1 := hLk.out; have h2 := hNC.out; omega)
          replace hend := Lib.hid hend
          go_wp2
          go_meet
          case rel => exact ⟨ca, cc, XC, hLe, hDe⟩
    case rest =>
      clear hD
      obtain ⟨ca, cc, XC, hLC, hD⟩ := hcut
      obtain ⟨NC, hNC⟩ : ∃ n, XC.length = n := ⟨_, rfl⟩
      rw [hNC] at hD hLC
      replace hNC := Lib.hid hNC
      obtain ⟨vr, d0, d1, df0, df1, dl⟩ := hD.out.r.cell
      obtain ⟨c0, c1, c2, c3, c4, c5, c6, cf, cl⟩ := cl7 hD.out.x
      simp only [slv] at c0 c1 c2 c3 c4 c5 c6
      go_upto_region 21 with fail
      by_cases hs7 : s7.2 = 0
      case neg =>
        have hsb : (s7.2 != 0) = true := by simpa using hs7
        have hnone : Hid (decS l = none) := Lib.hid (by rw [hdec.out, if_neg (fun h => hs7 h.1)])
        replace hs7 := Lib.hid hs7
        refine Free.wp_region_chain (fun i => i == 7 || i == 12 || i == 13) (fun i => true) (fun _ _ => False) (by kernel_rfl) (by kernel_rfl) (by kernel_rfl) ?_
        (repeat (first | (apply Free.cw_pure rfl rfl; (intro w'; go_simp <;> exact rfl); go_frame) | (apply Free.cw_steady rfl rfl rfl; (intro w' hS2; have q0 := Free.sx_cell hS2 d1 (fun _ _ hT => hT); have q1 := Free.sx_cell hS2 c0 (fun _ _ hT => hT); have q2 := Free.sx_cell hS2 c1 (fun _ _ hT => hT); have q3 := Free.sx_cell hS2 c2 (fun _ _ hT => hT); have q4 := Free.sx_cell hS2 c3 (fun _ _ hT => hT); have q5 := Free.sx_cell hS2 c4 (fun _ _ hT => hT); have q6 := Free.sx_cell hS2 c5 (fun _ _ hT => hT); have q7 := Free.sx_cell hS2 c6 (fun _ _ hT => hT); go_simp <;> exact rfl); go_frame) | (apply Free.cw_pureW rfl rfl; (intro w'; go_simp <;> exact rfl); go_frame) | (apply Free.cw_steadyW rfl rfl rfl; (intro w' hS2; have q0 := Free.sx_cell hS2 d1 (fun _ _ hT => hT); have q1 := Free.sx_cell hS2 c0 (fun _ _ hT => hT); have q2 := Free.sx_cell hS2 c1 (fun _ _ hT => hT); have q3 := Free.sx_cell hS2 c2 (fun _ _ hT => hT); have q4 := Free.sx_cell hS2 c3 (fun _ _ hT => hT); have q5 := Free.sx_cell hS2 c4 (fun _ _ hT => hT); have q6 := Free.sx_cell hS2 c5 (fun _ _ hT => hT); have q7 := Free.sx_cell hS2 c6 (fun _ _ hT => hT); go_simp <;> exact rfl); go_frame) | (refine Free.cw_skip rfl ?_; go_frame)))
        refine Free.cw_nil ?_
        clear c0 c1 c2 c3 c4 c5 c6 cf cl d0 d1 df0 df1 dl
        have hDV := hD.out.keeps (Keeps.refl [] wc).drew
        generalize wc.drew = V at *
        obtain ⟨g0, g1, g2, g3, g4, g5, g6, gf, gl⟩ := cl7 hDV.z
        have hZX : Z < X := by have h1 := hDV.zb; have h2 := hDV.bx; omega
        replace hDV := Lib.hid hDV
        go_wp2
        obtain ⟨m1, m2⟩ := sc7 (.int .i64 0) (.int .i64 0) (.int .i64 0) (.int .u64 0) (.int .i64 0) (.slice none 0 0) (.slice none 0 0) hDV.out.z
        refine bodyPost_ret (results_ct7 rfl _ _ _ _ _ _ _ _ _ _ _ _ rfl m1) rfl ?_
        exact .inl ⟨hnone.out, rfl, hDV.out.k.fresh m2 (fun b hb => by simp only [List.mem_singleton] at hb; subst hb; exact .inr hDV.out.wz)⟩
      case pos =>
      have hsb : (s7.2 != 0) = false := by simpa using hs7
      have hcall := hcD.out wc.drew (hD.out.r.keeps (Keeps.refl [] wc).drew)
      obtain ⟨dn, hdn⟩ : ∃ n, doneE s7.1 s7.2 = n := ⟨_, rfl⟩
      rw [hdn] at hcall hdec
      replace hcall := Lib.hid hcall
      replace hdn := Lib.hid hdn
      by_cases hd0 : dn = 0
      case neg =>
        have hdb : (dn != 0) = true := by simpa using hd0
        have hnone : Hid (decS l = none) := Lib.hid (by rw [hdec.out, if_neg (fun h => hd0 h.2.1)])
        replace hs7 := Lib.hid hs7
        replace hd0 := Lib.hid hd0
        refine Free.wp_region_chain (fun i => i == 7 || i == 12 || i == 13) (fun i => true) (fun _ _ => False) (by kernel_rfl) (by kernel_rfl) (by kernel_rfl) ?_
        (repeat (first | (apply Free.cw_pure rfl rfl; (intro w'; go_simp <;> exact rfl); go_frame) | (apply Free.cw_steady rfl rfl rfl; (intro w' hS2; have q0 := Free.sx_cell hS2 d1 (fun _ _ hT => hT); have q1 := Free.sx_cell hS2 c0 (fun _ _ hT => hT); have q2 := Free.sx_cell hS2 c1 (fun _ _ hT => hT); have q3 := Free.sx_cell hS2 c2 (fun _ _ hT => hT); have q4 := Free.sx_cell hS2 c3 (fun _ _ hT => hT); have q5 := Free.sx_cell hS2 c4 (fun _ _ hT => hT); have q6 := Free.sx_cell hS2 c5 (fun _ _ hT => hT); have q7 := Free.sx_cell hS2 c6 (fun _ _ hT => hT); go_simp <;> exact rfl); go_frame) | (apply Free.cw_pureW rfl rfl; (intro w'; go_simp <;> exact rfl); go_frame) | (apply Free.cw_steadyW rfl rfl rfl; (intro w' hS2; have q0 := Free.sx_cell hS2 d1 (fun _ _ hT => hT); have q1 := Free.sx_cell hS2 c0 (fun _ _ hT => hT); have q2 := Free.sx_cell hS2 c1 (fun _ _ hT => hT); have q3 := Free.sx_cell hS2 c2 (fun _ _ hT => hT); have q4 := Free.sx_cell hS2 c3 (fun _ _ hT => hT); have q5 := Free.sx_cell hS2 c4 (fun _ _ hT => hT); have q6 := Free.sx_cell hS2 c5 (fun _ _ hT => hT); have q7 := Free.sx_cell hS2 c6 (fun _ _ hT => hT); go_simp <;> exact rfl); go_frame) | (refine Free.cw_skip rfl ?_; go_frame)))
        refine Free.cw_loudW rfl rfl (fun K hK => ?_)
        go_wp2_with fail
        refine hcall.out.mono ?_
        rintro e wq ⟨rfl, hwq⟩
        obtain rfl := hwq
        refine hK _ _ rfl (Free.KeepsP.refl _ _) ?_
        clear hK K
        (repeat (first | (apply Free.cw_pure rfl rfl; (intro w'; go_simp <;> exact rfl); go_frame) | (apply Free.cw_steady rfl rfl rfl; (intro w' hS2; have q0 := Free.sx_cell hS2 d1 (fun _ _ hT => hT); have q1 := Free.sx_cell hS2 c0 (fun _ _ hT => hT); have q2 := Free.sx_cell hS2 c1 (fun _ _ hT => hT); have q3 := Free.sx_cell hS2 c2 (fun _ _ hT => hT); have q4 := Free.sx_cell hS2 c3 (fun _ _ hT => hT); have q5 := Free.sx_cell hS2 c4 (fun _ _ hT => hT); have q6 := Free.sx_cell hS2 c5 (fun _ _ hT => hT); have q7 := Free.sx_cell hS2 c6 (fun _ _ hT => hT); go_simp <;> exact rfl); go_frame) | (apply Free.cw_pureW rfl rfl; (intro w'; go_simp <;> exact rfl); go_frame) | (apply Free.cw_steadyW rfl rfl rfl; (intro w' hS2; have q0 := Free.sx_cell hS2 d1 (fun _ _ hT => hT); have q1 := Free.sx_cell hS2 c0 (fun _ _ hT => hT); have q2 := Free.sx_cell hS2 c1 (fun _ _ hT => hT); have q3 := Free.sx_cell hS2 c2 (fun _ _ hT => hT); have q4 := Free.sx_cell hS2 c3 (fun _ _ hT => hT); have q5 := Free.sx_cell hS2 c4 (fun _ _ hT => hT); have q6 := Free.sx_cell hS2 c5 (fun _ _ hT => hT); have q7 := Free.sx_cell hS2 c6 (fun _ _ hT => hT); go_simp <;> exact rfl); go_frame) | (refine Free.cw_skip rfl ?_; go_frame)))
        refine Free.cw_nil ?_
        clear c0 c1 c2 c3 c4 c5 c6 cf cl d0 d1 df0 df1 dl
        have hDV := hD.out.keeps (Keeps.refl [] wc).drew
        generalize wc.drew = V at *
        obtain ⟨g0, g1, g2, g3, g4, g5, g6, gf, gl⟩ := cl7 hDV.z
        have hZX : Z < X := by have h1 := hDV.zb; have h2 := hDV.bx; omega
        replace hDV := Lib.hid hDV
        go_wp2
        obtain ⟨m1, m2⟩ := sc7 (.int .i64 0) (.int .i64 0) (.int .i64 0) (.int .u64 0) (.int .i64 0) (.slice none 0 0) (.slice none 0 0) hDV.out.z
        refine bodyPost_ret (results_ct7 rfl _ _ _ _ _ _ _ _ _ _ _ _ rfl m1) rfl ?_
        exact .inl ⟨hnone.out, rfl, hDV.out.k.fresh m2 (fun b hb => by simp only [List.mem_singleton] at hb; subst hb; exact .inr hDV.out.wz)⟩
      case pos =>
      subst hd0
      obtain ⟨cx, hcx⟩ : ∃ c : Ct, (⟨z0, z1, (n0, n1, n2), YY, PP⟩ : Ct) = c := ⟨_, rfl⟩
      have hcw : CtW wc ⟨z0, z1, n0, n1, n2, (aa, NA, ac), (ca, NC, cc)⟩ cx := by rw [← hcx]; exact ⟨rfl, rfl, rfl, rfl, rfl, ⟨XA, hD.out.a.r, hD.out.la.lrd⟩, hD.out.rc.lc hD.out.c.r⟩
      rw [hcx] at hwt hfit hdec
      have hen := encodeS_c wc.drew _ cx (hcw.keeps (Keeps.refl [] wc).drew) hfit.out hwt.out
      simp only [ctV, slv] at hen
      have hl0 := Lib.hid ((h.out.keeps hD.out.k).keeps (Keeps.refl [] wc).drew)
      obtain ⟨EL, hEL⟩ : ∃ x, encCt cx = x := ⟨_, rfl⟩
      rw [hEL] at hen hdec
      have hdec2 : decS l = if EL = l then some cx else none := by
        rw [hdec.out]
        by_cases h : EL = l
        · rw [if_pos ⟨hs7, rfl, h⟩, if_pos h]
        · rw [if_neg (fun x => h x.2.2), if_neg h]
      obtain ⟨sl, hsl⟩ : ∃ x, Hid (str l = x) := ⟨_, Lib.hid rfl⟩
      replace hen := Lib.hid hen
      replace hEL := Lib.hid hEL
      replace hcx := Lib.hid hcx
      replace hdec2 := Lib.hid hdec2
      replace hs7 := Lib.hid hs7
      clear hcw hdec
      refine Free.wp_region_chain (fun i => i == 7 || i == 12 || i == 13) (fun i => true) (fun _ _ => False) (by kernel_rfl) (by kernel_rfl) (by kernel_rfl) ?_
      (repeat (first | (apply Free.cw_pure rfl rfl; (intro w'; go_simp <;> exact rfl); go_frame) | (apply Free.cw_steady rfl rfl rfl; (intro w' hS2; have q0 := Free.sx_cell hS2 d1 (fun _ _ hT => hT); have q1 := Free.sx_cell hS2 c0 (fun _ _ hT => hT); have q2 := Free.sx_cell hS2 c1 (fun _ _ hT => hT); have q3 := Free.sx_cell hS2 c2 (fun _ _ hT => hT); have q4 := Free.sx_cell hS2 c3 (fun _ _ hT => hT); have q5 := Free.sx_cell hS2 c4 (fun _ _ hT => hT); have q6 := Free.sx_cell hS2 c5 (fun _ _ hT => hT); have q7 := Free.sx_cell hS2 c6 (fun _ _ hT => hT); go_simp <;> exact rfl); go_frame) | (apply Free.cw_pureW rfl rfl; (intro w'; go_simp <;> exact rfl); go_frame) | (apply Free.cw_steadyW rfl rfl rfl; (intro w' hS2; have q0 := Free.sx_cell hS2 d1 (fun _ _ hT => hT); have q1 := Free.sx_cell hS2 c0 (fun _ _ hT => hT); have q2 := Free.sx_cell hS2 c1 (fun _ _ hT => hT); have q3 := Free.sx_cell hS2 c2 (fun _ _ hT => hT); have q4 := Free.sx_cell hS2 c3 (fun _ _ hT => hT); have q5 := Free.sx_cell hS2 c4 (fun _ _ hT => hT); have q6 := Free.sx_cell hS2 c5 (fun _ _ hT => hT); have q7 := Free.sx_cell hS2 c6 (fun _ _ hT => hT); go_simp <;> exact rfl); go_frame) | (refine Free.cw_skip rfl ?_; go_frame)))
      refine Free.cw_loudW rfl rfl (fun K hK => ?_)
      go_wp2_with fail
      refine hcall.out.mono ?_
      rintro e wq ⟨rfl, hwq⟩
      obtain rfl := hwq
      refine hK _ _ rfl (Free.KeepsP.refl _ _) ?_
      clear hK K
      (repeat (first | (apply Free.cw_pure rfl rfl; (intro w'; go_simp <;> exact rfl); go_frame) | (apply Free.cw_steady rfl rfl rfl; (intro w' hS2; have q0 := Free.sx_cell hS2 d1 (fun _ _ hT => hT); have q1 := Free.sx_cell hS2 c0 (fun _ _ hT => hT); have q2 := Free.sx_cell hS2 c1 (fun _ _ hT => hT); have q3 := Free.sx_cell hS2 c2 (fun _ _ hT => hT); have q4 := Free.sx_cell hS2 c3 (fun _ _ hT => hT); have q5 := Free.sx_cell hS2 c4 (fun _ _ hT => hT); have q6 := Free.sx_cell hS2 c5 (fun _ _ hT => hT); have q7 := Free.sx_cell hS2 c6 (fun _ _ hT => hT); go_simp <;> exact rfl); go_frame) | (apply Free.cw_pureW rfl rfl; (intro w'; go_simp <;> exact rfl); go_frame) | (apply Free.cw_steadyW rfl rfl rfl; (intro w' hS2; have q0 := Free.sx_cell hS2 d1 (fun _ _ hT => hT); have q1 := Free.sx_cell hS2 c0 (fun _ _ hT => hT); have q2 := Free.sx_cell hS2 c1 (fun _ _ hT => hT); have q3 := Free.sx_cell hS2 c2 (fun _ _ hT => hT); have q4 := Free.sx_cell hS2 c3 (fun _ _ hT => hT); have q5 := Free.sx_cell hS2 c4 (fun _ _ hT => hT); have q6 := Free.sx_cell hS2 c5 (fun _ _ hT => hT); have q7 := Free.sx_cell hS2 c6 (fun _ _ hT => hT); go_simp <;> exact rfl); go_frame) | (refine Free.cw_skip rfl ?_; go_frame)))
      refine Free.cw_loudW rfl rfl (fun K hK => ?_)
      go_wp2_with fail
      refine hen.out.mono ?_
      rintro ee V1 ⟨vb, rfl, hSb, hkb⟩
      refine hK _ _ rfl (Free.KeepsP.of hkb (by simp)) ?_
      clear hK K
      have hrb := run_str hSb
      have hkF := Lib.hid ((Keeps.refl [] wc).drew.trans hkb)
      obtain ⟨ab, cb, rfl⟩ := hSb.form
      obtain ⟨NB, hNB⟩ : ∃ n, EL.length = n := ⟨_, rfl⟩
      rw [hNB] at hrb ⊢
      obtain ⟨sb, hsb2⟩ : ∃ x, str EL = x := ⟨_, rfl⟩
      rw [hsb2] at hrb
      have hcmp : (sb.toList == sl.toList) = decide (EL = l) := by
        rw [← hsb2, ← hsl.out]
        have : (EL == l) = decide (EL = l) := by rw [Bool.eq_iff_iff]; simp
        simp [str, this]
      replace hNB := Lib.hid hNB
      replace hsb2 := Lib.hid hsb2
      clear hSb hkb hen
      refine Free.cw_loudW rfl rfl (fun K hK => ?_)
      go_wp2
      refine hK _ _ rfl (Free.KeepsP.refl _ _) ?_
      clear hK K hrb
      by_cases hel : EL = l
      · rw [decide_eq_true hel] at hcmp
        have hsome : Hid (decS l = some cx) := Lib.hid (hdec2.out.trans (if_pos hel))
        replace hel := Lib.hid hel
        (repeat (first | (apply Free.cw_pure rfl rfl; (intro w'; go_simp <;> exact rfl); go_frame) | (apply Free.cw_steady rfl rfl rfl; (intro w' hS2; have q0 := Free.sx_cell hS2 d1 (fun _ _ hT => hT); have q1 := Free.sx_cell hS2 c0 (fun _ _ hT => hT); have q2 := Free.sx_cell hS2 c1 (fun _ _ hT => hT); have q3 := Free.sx_cell hS2 c2 (fun _ _ hT => hT); have q4 := Free.sx_cell hS2 c3 (fun _ _ hT => hT); have q5 := Free.sx_cell hS2 c4 (fun _ _ hT => hT); have q6 := Free.sx_cell hS2 c5 (fun _ _ hT => hT); have q7 := Free.sx_cell hS2 c6 (fun _ _ hT => hT); have hrs := run_str (hl0.out.keeps (hS2.to (Keeps.refl [] _) (fun b h => by obtain ⟨_, _, _, h⟩ := h; exact h.elim))); rw [hsl.out] at hrs; go_simp <;> exact rfl); go_frame) | (apply Free.cw_pureW rfl rfl; (intro w'; go_simp <;> exact rfl); go_frame) | (apply Free.cw_steadyW rfl rfl rfl; (intro w' hS2; have q0 := Free.sx_cell hS2 d1 (fun _ _ hT => hT); have q1 := Free.sx_cell hS2 c0 (fun _ _ hT => hT); have q2 := Free.sx_cell hS2 c1 (fun _ _ hT => hT); have q3 := Free.sx_cell hS2 c2 (fun _ _ hT => hT); have q4 := Free.sx_cell hS2 c3 (fun _ _ hT => hT); have q5 := Free.sx_cell hS2 c4 (fun _ _ hT => hT); have q6 := Free.sx_cell hS2 c5 (fun _ _ hT => hT); have q7 := Free.sx_cell hS2 c6 (fun _ _ hT => hT); have hrs := run_str (hl0.out.keeps (hS2.to (Keeps.refl [] _) (fun b h => by obtain ⟨_, _, _, h⟩ := h; exact h.elim))); rw [hsl.out] at hrs; go_simp <;> exact rfl); go_frame) | (refine Free.cw_skip rfl ?_; go_frame)))
        refine Free.cw_nil ?_
        clear c0 c1 c2 c3 c4 c5 c6 cf cl d0 d1 df0 df1 dl
        have hDV := hD.out.keeps hkF.out
        obtain ⟨c0, c1, c2, c3, c4, c5, c6, cf, cl⟩ := cl7 hDV.x
        simp only [slv] at c0 c1 c2 c3 c4 c5 c6
        obtain ⟨g0, g1, g2, g3, g4, g5, g6, gf, gl⟩ := cl7 hDV.z
        have hZX : Z ≠ X := by have h1 := hDV.zb; have h2 := hDV.bx; omega
        have hDV := Lib.hid hDV
        replace hcmp := Lib.hid hcmp
        go_wp2
        obtain ⟨m1, m2⟩ := sc7 (.int .i64 z0) (.int .i64 z1) (.int .i64 n0) (.int .u64 n1) (.int .i64 n2) (.slice aa NA ac) (.slice ca NC cc) hDV.out.z
        have hzb := hDV.out.zb
        have hbx := hDV.out.bx
        have hwz := hDV.out.wz
        refine bodyPost_ret (results_ct7 rfl _ _ _ _ _ _ _ _ _ _ _ _ rfl m1) rfl ?_
        refine .inr ⟨⟨z0, z1, n0, n1, n2, (aa, NA, ac), (ca, NC, cc)⟩, cx, XA, XC, hsome.out, rfl, ?_, ?_⟩
        · rw [← hcx.out]
          refine ⟨rfl, rfl, rfl, rfl, rfl, (hDV.out.a.keepS m2 (fun b hb e => ?_)).lowD (by omega), hDV.out.la.ki (m2.ki (fun b hb cs f e => ?_)), (hDV.out.c.keepS m2 (fun b hb e => ?_)).lowD (by omega), hDV.out.rc.keepS m2 (fun b hb cs f e => ?_)⟩
          · simp only [List.mem_singleton] at hb; have := hDV.out.a.ge _ e; omega
          · simp only [List.mem_singleton] at hb; subst hb; rw [hDV.out.z] at e; cases e
          · simp only [List.mem_singleton] at hb; have := hDV.out.c.ge _ e; omega
          · simp only [List.mem_singleton] at hb; subst hb; rw [hDV.out.z] at e; cases e
        · exact hDV.out.k.fresh m2 (fun b hb => by simp only [List.mem_singleton] at hb; subst hb; exact .inr hwz)
      · rw [decide_eq_false hel] at hcmp
        have hnone : Hid (decS l = none) := Lib.hid (hdec2.out.trans (if_neg hel))
        replace hel := Lib.hid hel
        (repeat (first | (apply Free.cw_pure rfl rfl; (intro w'; go_simp <;> exact rfl); go_frame) | (apply Free.cw_steady rfl rfl rfl; (intro w' hS2; have q0 := Free.sx_cell hS2 d1 (fun _ _ hT => hT); have q1 := Free.sx_cell hS2 c0 (fun _ _ hT => hT); have q2 := Free.sx_cell hS2 c1 (fun _ _ hT => hT); have q3 := Free.sx_cell hS2 c2 (fun _ _ hT => hT); have q4 := Free.sx_cell hS2 c3 (fun _ _ hT => hT); have q5 := Free.sx_cell hS2 c4 (fun _ _ hT => hT); have q6 := Free.sx_cell hS2 c5 (fun _ _ hT => hT); have q7 := Free.sx_cell hS2 c6 (fun _ _ hT => hT); have hrs := run_str (hl0.out.keeps (hS2.to (Keeps.refl [] _) (fun b h => by obtain ⟨_, _, _, h⟩ := h; exact h.elim))); rw [hsl.out] at hrs; go_simp <;> exact rfl); go_frame) | (apply Free.cw_pureW rfl rfl; (intro w'; go_simp <;> exact rfl); go_frame) | (apply Free.cw_steadyW rfl rfl rfl; (intro w' hS2; have q0 := Free.sx_cell hS2 d1 (fun _ _ hT => hT); have q1 := Free.sx_cell hS2 c0 (fun _ _ hT => hT); have q2 := Free.sx_cell hS2 c1 (fun _ _ hT => hT); have q3 := Free.sx_cell hS2 c2 (fun _ _ hT => hT); have q4 := Free.sx_cell hS2 c3 (fun _ _ hT => hT); have q5 := Free.sx_cell hS2 c4 (fun _ _ hT => hT); have q6 := Free.sx_cell hS2 c5 (fun _ _ hT => hT); have q7 := Free.sx_cell hS2 c6 (fun _ _ hT => hT); have hrs := run_str (hl0.out.keeps (hS2.to (Keeps.refl [] _) (fun b h => by obtain ⟨_, _, _, h⟩ := h; exact h.elim))); rw [hsl.out] at hrs; go_simp <;> exact rfl); go_frame) | (refine Free.cw_skip rfl ?_; go_frame)))
        refine Free.cw_nil ?_
        clear c0 c1 c2 c3 c4 c5 c6 cf cl d0 d1 df0 df1 dl
        have hDV := hD.out.keeps hkF.out
        obtain ⟨g0, g1, g2, g3, g4, g5, g6, gf, gl⟩ := cl7 hDV.z
        have hZX : Z < X := by have h1 := hDV.zb; have h2 := hDV.bx; omega
        replace hDV := Lib.hid hDV
        go_wp2
        obtain ⟨m1, m2⟩ := sc7 (.int .i64 0) (.int .i64 0) (.int .i64 0) (.int .u64 0) (.int .i64 0) (.slice none 0 0) (.slice none 0 0) hDV.out.z
        refine bodyPost_ret (results_ct7 rfl _ _ _ _ _ _ _ _ _ _ _ _ rfl m1) rfl ?_
        exact .inl ⟨hnone.out, rfl, hDV.out.k.fresh m2 (fun b hb => by simp only [List.mem_singleton] at hb; subst hb; exact .inr hDV.out.wz)⟩
end Go.Proofs.YtiplgpefapeapaaGreat

namespace Go.Proofs.YtiplgpefapeapaaGreat
open Go.RowKit

/-! ### the bytes -/
/-! ### what a trace's record gives -/
def rpl (t : Tr) (H : List Ans) : Tr := H.foldl (fun t a => (t.answer a).1) t
theorem rpl_snoc (t : Tr) (H : List Ans) (a : Ans) : rpl t (H ++ [a]) = ((rpl t H).answer a).1 := by unfold rpl; rw [List.foldl_append]; rfl
def Tr.base (t : Tr) : Tr := Tr.new t.im t.is t.st
structure Tr.Rep (t : Tr) : Prop where
  ok : ∀ k (hk : k < t.hist.length), ((rpl t.base (t.hist.take k)).answer t.hist[k]).2 = 0
  fin : ∃ u, gA (rpl t.base t.hist) t.ag.length = some u ∧ rfS t.rf u = some { t with told := 0 }
  tl : t.told = 0 ∨ ∃ k, k ≤ t.hist.length ∧ (rpl t.base (t.hist.take k)).state = 0 ∧ t.told = (rpl t.base (t.hist.take k)).qs.length
theorem Tr.Rep.new (im is : Int) (st : T3) : (Tr.new im is st).Rep := ⟨fun k hk => by simp [Tr.new] at hk, ⟨Tr.new im is st, rfl, rfl⟩, .inl rfl⟩
theorem ans_told2 (t : Tr) (a : Ans) (x : Int) : ({ t with told := x } : Tr).answer a = ({ (t.answer a).1 with told := x }, (t.answer a).2) := by
  unfold Tr.answer
  simp only
  split
  · rfl
  split
  · rfl
  split
  · rfl
  split
  · rfl
  have e : ({ t with told := x } : Tr).take a = { t.take a with told := x } := rfl
  simp only [Tr.take, Tr.put]
  split
  · rfl
  unfold Tr.close
  simp only
  split <;> rfl
/-- While a trace gathers, it is what its history gives. -/
theorem Tr.Rep.now {t : Tr} (h : t.Rep) (ha : t.ag = []) (hr : t.rf = false) : rpl t.base t.hist = { t with told := 0 } := by
  obtain ⟨u, h1, h2⟩ := h.fin
  rw [ha] at h1
  have e0 : rfS t.rf u = some u := by rw [hr]; rfl
  rw [e0] at h2
  have e1 : rpl t.base t.hist = u := Option.some.inj h1
  have e2 : u = { t with told := 0 } := Option.some.inj h2
  rw [e1, e2]
theorem Tr.Rep.conf {t : Tr} (h : t.Rep) (hr : t.rf = false) : gA (rpl t.base t.hist) t.ag.length = some { t with told := 0 } := by
  obtain ⟨u, h1, h2⟩ := h.fin
  have e0 : rfS t.rf u = some u := by rw [hr]; rfl
  rw [e0] at h2
  have e2 : u = { t with told := 0 } := Option.some.inj h2
  rw [h1, e2]
theorem Tr.answer_more (t : Tr) (a : Ans) : (t.answer a).1 = t ∨ (t.state = 0 ∧ (t.answer a).2 = 0 ∧ (t.answer a).1.hist = t.hist ++ [a] ∧ (t.answer a).1.rf = t.rf ∧ (t.answer a).1.told = t.told ∧ (t.answer a).1.ag = t.ag) := by
  unfold Tr.answer
  split
  · exact .inl rfl
  rename_i h0
  have h0 : t.state = 0 := by simpa using h0
  split
  · exact .inl rfl
  split
  · exact .inr ⟨h0, rfl, rfl, rfl, rfl, rfl⟩
  split
  · exact .inr ⟨h0, rfl, rfl, rfl, rfl, rfl⟩
  split
  · exact .inr ⟨h0, rfl, rfl, rfl, rfl, rfl⟩
  unfold Tr.close
  split <;> exact .inr ⟨h0, rfl, rfl, rfl, rfl, rfl⟩
theorem Tr.Rep.answer {t : Tr} {n : Nat} (h : t.Rep) (hb : t.Bnd n) (a : Ans) : (t.answer a).1.Rep := by
  rcases t.answer_more a with e | ⟨h0, h1, h2, h3, h4, h5⟩
  · rw [e]; exact h
  have hag := hb.s0 h0
  have hrf : t.rf = false := by
    cases e : t.rf with
    | false => rfl
    | true => have := hb.rf e; omega
  have hnow := h.now hag hrf
  obtain ⟨_, i1, i2, i3, _⟩ := Tr.answer_hist t a
  have hbase : (t.answer a).1.base = t.base := by unfold Tr.base; rw [i1, i2, i3]
  have hend : rpl t.base (t.hist ++ [a]) = { (t.answer a).1 with told := 0 } := by rw [rpl_snoc, hnow, ans_told2]
  refine ⟨fun k hk => ?_, ?_, ?_⟩
  · rw [hbase]
    simp only [h2] at hk ⊢
    rcases Nat.lt_or_ge k t.hist.length with hl | hl
    · rw [List.take_append_of_le_length (by omega), List.getElem_append_left hl]
      exact h.ok k hl
    · have hk' : k = t.hist.length := by simp at hk; omega
      subst hk'
      rw [List.take_append_of_le_length (Nat.le_refl _), List.take_length, hnow, ans_told2]
      simpa using h1
  · have z1 : rpl (t.answer a).1.base (t.answer a).1.hist = { (t.answer a).1 with told := 0 } := by rw [hbase, h2]; exact hend
    have z2 : (t.answer a).1.ag.length = 0 := by rw [h5, hag]; rfl
    have z3 : (t.answer a).1.rf = false := by rw [h3, hrf]
    refine ⟨{ (t.answer a).1 with told := 0 }, by rw [z1, z2]; rfl, ?_⟩
    unfold rfS
    rw [if_neg (by rw [z3]; decide)]
  · rw [hbase, h2, h4]
    rcases h.tl with e | ⟨k, k1, k2, k3⟩
    · exact .inl e
    · refine .inr ⟨k, by simp; omega, ?_⟩
      rw [List.take_append_of_le_length k1]
      exact ⟨k2, k3⟩
theorem Tr.Rep.queries {t : Tr} {n : Nat} (h : t.Rep) (hb : t.Bnd n) : t.queries.1.Rep := by
  unfold Tr.queries
  split
  · exact h
  rename_i h0
  have h0 : t.state = 0 := by simpa using h0
  have hag := hb.s0 h0
  have hrf : t.rf = false := by
    cases e : t.rf with
    | false => rfl
    | true => have := hb.rf e; omega
  have hnow := h.now hag hrf
  refine ⟨h.ok, h.fin, .inr ⟨t.hist.length, Nat.le_refl _, ?_⟩⟩
  show (rpl t.base (t.hist.take t.hist.length)).state = 0 ∧ (t.qs.length : Int) = (rpl t.base (t.hist.take t.hist.length)).qs.length
  rw [List.take_length, hnow]
  exact ⟨h0, rfl⟩
theorem Tr.Rep.agree {t : Tr} {n : Nat} (h : t.Rep) (hb : t.Bnd n) (m : Int) : (t.agreeT m).1.Rep := by
  by_cases h1 : t.state = 1
  · have hrf : t.rf = false := by
      cases e : t.rf with
      | false => rfl
      | true => have := hb.rf e; omega
    have hconf := h.conf hrf
    have hlt := hb.s1 h1
    have hp : t.clm[t.ag.length]? = some t.clm[t.ag.length] := List.getElem?_eq_getElem hlt
    unfold Tr.agreeT
    rw [if_neg (by simp [h1]), hp]
    simp only
    split
    · exact h
    · rename_i hm
      have hm : t.clm[t.ag.length].m = m := by simpa using hm
      refine ⟨h.ok, ⟨{ t with told := 0, ag := t.ag ++ [m], state := if t.ag.length + 1 = t.clm.length then 2 else t.state }, ?_, ?_⟩, h.tl⟩
      · show gA (rpl t.base t.hist) (t.ag ++ [m]).length = _
        rw [List.length_append]
        show (gA (rpl t.base t.hist) t.ag.length).bind gS = _
        rw [hconf]
        show gS { t with told := 0 } = _
        unfold gS
        rw [if_pos h1]
        have e1 : ({ t with told := 0 } : Tr).clm = t.clm := Tr.clm_qs rfl
        have e2 : ({ t with told := 0 } : Tr).pm = m := by
          unfold Tr.pm
          rw [e1]
          simp only [hp]
          exact hm
        rw [e2]
        unfold Tr.agreeT
        rw [if_neg (by simp [h1]), e1]
        simp only [hp]
        rw [if_neg (by simp [hm])]
      · simp only [hrf]
        rfl
  · have e : (t.agreeT m).1 = t := by
      unfold Tr.agreeT
      rw [if_pos h1]
    rw [e]; exact h
theorem Tr.Rep.refuse {t : Tr} {n : Nat} (h : t.Rep) (hb : t.Bnd n) (m : Int) : (t.refuseT m).1.Rep := by
  by_cases h1 : t.state = 1
  · have hrf : t.rf = false := by
      cases e : t.rf with
      | false => rfl
      | true => have := hb.rf e; omega
    have hconf := h.conf hrf
    have hlt := hb.s1 h1
    have hp : t.clm[t.ag.length]? = some t.clm[t.ag.length] := List.getElem?_eq_getElem hlt
    unfold Tr.refuseT
    rw [if_neg (by simp [h1]), hp]
    simp only
    split
    · exact h
    · rename_i hm
      have hm : t.clm[t.ag.length].m = m := by simpa using hm
      refine ⟨h.ok, ⟨{ t with told := 0 }, hconf, ?_⟩, h.tl⟩
      unfold rfS
      rw [if_pos rfl, if_pos h1]
      have e1 : ({ t with told := 0 } : Tr).clm = t.clm := Tr.clm_qs rfl
      have e2 : ({ t with told := 0 } : Tr).pm = m := by
        unfold Tr.pm
        rw [e1]
        simp only [hp]
        exact hm
      rw [e2]
      unfold Tr.refuseT
      rw [if_neg (by simp [h1]), e1]
      simp only [hp]
      rw [if_neg (by simp [hm])]
  · have e : (t.refuseT m).1 = t := by
      unfold Tr.refuseT
      rw [if_pos h1]
    rw [e]; exact h
theorem Tr.Rep.step {t : Tr} {n : Nat} (h : t.Rep) (hb : t.Bnd n) (o : Op3) : (o.step t).Rep := by
  unfold Op3.step
  split
  · exact h.answer hb _
  split
  · exact h.queries hb
  split
  · exact h.agree hb _
  split
  · exact h.refuse hb _
  · exact h
/-! ### the round trip -/
end Go.Proofs.YtiplgpefapeapaaGreat

namespace Go.Proofs.YtiplgpefapeapaaGreat
open Go.RowKit

theorem Ct.Few.f24 {c : Ct} (h : c.Few) : c.F24 := ⟨by have := h.an; omega, by have := h.cl; omega, fun a ha => by have := h.ins a ha; omega, fun p hp => by have := h.ns p hp; omega⟩
theorem sum_le_mul {α : Type} (g : α → Nat) (K : Nat) : ∀ l : List α, (∀ x ∈ l, g x ≤ K) → (l.map g).sum ≤ l.length * K
  | [], _ => by simp
  | x :: r, h => by
    have h1 := h x (by simp)
    have h2 := sum_le_mul g K r (fun y hy => h y (by simp [hy]))
    simp only [List.map_cons, List.sum_cons, List.length_cons, Nat.add_mul, Nat.one_mul]
    omega
theorem Ct.F24.wt {c : Ct} (h : c.F24) : c.wt ≤ 200000000000 := by
  have h1 := sum_le_mul wA 31000 c.an (fun a ha => by have := h.ins a ha; unfold wA; omega)
  have h2 := sum_le_mul wP 93000 c.cl (fun p hp => by have := h.ns p hp; unfold wP; omega)
  have g1 := h.an
  have g2 := h.cl
  have g3 : c.an.length * 31000 ≤ 1024 * 31000 := Nat.mul_le_mul_right _ g1
  have g4 : c.cl.length * 93000 ≤ 1024 * 93000 := Nat.mul_le_mul_right _ g2
  unfold Ct.wt
  omega
end Go.Proofs.YtiplgpefapeapaaGreat

namespace Go.Proofs.YtiplgpefapeapaaGreat
open Go.RowKit

abbrev fNum (bR : Nat) : Value := .func (.func 24) #[] #[.pointer (some ⟨bR, 0, none⟩)]
abbrev fOne (bF bR : Nat) : Value := .func (.func 26) #[] #[.pointer (some ⟨bF, 0, none⟩), .pointer (some ⟨bR, 0, none⟩)]
/-- The two variables that the closures hold: the reader, and number. -/
structure DeV (w : World) (br bR bF : Nat) : Prop where
  r : w.heap[bR]? = some (.cells #[.pointer (some ⟨br, 0, none⟩)] 57 (0, 0))
  f : w.heap[bF]? = some (.cells #[fNum bR] 60 (0, 0))
  rb : bR ≠ br
  fb : bF ≠ br
theorem DeV.keep {w w' : World} {br bR bF : Nat} {S : List Nat} (h : DeV w br bR bF) (hk : Keeps S w w') (h1 : bR ∉ S) (h2 : bF ∉ S) : DeV w' br bR bF :=
  ⟨(hk.block bR (lt_of_blk h.r) h1).trans h.r, (hk.block bF (lt_of_blk h.f) h2).trans h.f, h.rb, h.fb⟩
theorem DeV.keeps {w w' : World} {br bR bF : Nat} (h : DeV w br bR bF) (hk : Keeps [] w w') : DeV w' br bR bF := h.keep hk (by simp) (by simp)
theorem DeV.rd {w w' : World} {br bR bF : Nat} (h : DeV w br bR bF) (hk : Keeps [br] w w') : DeV w' br bR bF := h.keep hk (by simpa using h.rb) (by simpa using h.fb)
theorem DeV.other {w w' : World} {br bR bF X : Nat} {cs : Array Value} {t : TypeId} (h : DeV w br bR bF) (hk : Keeps [X] w w') (hX : w.heap[X]? = some (.cells cs t (0, 0))) (ht : t ≠ 57) (hf : t ≠ 60) : DeV w' br bR bF :=
  h.keep hk (fun e => by simp only [List.mem_singleton] at e; have := h.r; rw [e, hX] at this; cases this; exact ht rfl) (fun e => by simp only [List.mem_singleton] at e; have := h.f; rw [e, hX] at this; cases this; exact hf rfl)
theorem RdS.other {w w' : World} {br : Nat} {s : RS} {X : Nat} {cs : Array Value} {t : TypeId} {f : Nat × Nat} (h : RdS w br s) (hk : Keeps [X] w w') (hX : w.heap[X]? = some (.cells cs t f)) (ht : t ≠ tRd) (hb : t ≠ tB) : RdS w' br s := by
  refine h.moved hk (fun hm => ?_) (fun b hm cs' e => ?_)
  · simp only [List.mem_singleton] at hm
    obtain ⟨c2, h2⟩ := h.tag
    rw [hm, hX] at h2
    cases h2
    exact ht rfl
  · simp only [List.mem_singleton] at hm
    rw [hm, hX] at e
    cases e
    exact hb rfl
set_option maxRecDepth 100000 in
theorem number_c (w : World) (br bR : Nat) (s : RS) (h : RdS w br s) (hb : w.heap[bR]? = some (.cells #[.pointer (some ⟨br, 0, none⟩)] 57 (0, 0))) :
    Calls Tryz.prog 24 #[.pointer (some ⟨bR, 0, none⟩)] w fun e w' => e = .returned (.int .i64 (rI s).1) ∧ RdS w' br (rI s).2 ∧ Keeps [br] w w' := by
  have hc := intS_c w br s h
  obtain ⟨c0, cf, cl⟩ := cl1 hb
  have hf := rI_fit s
  obtain ⟨p, hp⟩ : ∃ p, rI s = p := ⟨_, rfl⟩
  rw [hp] at hc hf ⊢
  replace hc := Lib.hid hc
  replace hp := Lib.hid hp
  clear h
  go_enter Tryz.func24, Tryz.ntmps24
  go_wp2_with fail
  refine hc.out.mono ?_
  rintro e w1 ⟨rfl, hR1, hk1⟩
  replace hR1 := Lib.hid hR1
  replace hk1 := Lib.hid hk1
  go_wp2
  go_ret
  exact ⟨rfl, hR1.out, hk1.out⟩
set_option maxRecDepth 100000 in
set_option maxHeartbeats 8000000 in
theorem one_c (w : World) (br bR bF : Nat) (s : RS) (h : RdS w br s) (hv : DeV w br bR bF) :
    Calls Tryz.prog 26 #[.pointer (some ⟨bF, 0, none⟩), .pointer (some ⟨bR, 0, none⟩)] w fun e w' => e = .returned (tV (rX s).1) ∧ RdS w' br (rX s).2 ∧ Keeps [br] w w' := by
  have hkZ := (Keeps.refl [] w).alloc (.cells #[.int .i64 0, .int .u64 0, .int .i64 0] tN)
  have hZ := heap_alloc_new w (.cells #[.int .i64 0, .int .u64 0, .int .i64 0] tN)
  have h1 := h.keeps hkZ
  have hv1 := hv.keeps hkZ
  have hbw := h.lt
  have hbR := lt_of_blk hv.r
  have hbF := lt_of_blk hv.f
  have hres : (rX s) = (((rI s).1, (rU (rI s).2).1, (rI (rU (rI s).2).2).1), (rI (rU (rI s).2).2).2) := rfl
  rw [hres]
  obtain ⟨p1, hp1⟩ : ∃ p, rI s = p := ⟨_, rfl⟩
  obtain ⟨n1, s1⟩ := p1
  have hc1 := fun W h hb => number_c W br bR s h hb
  rw [hp1] at hc1 ⊢
  simp only at hc1 ⊢
  obtain ⟨p2, hp2⟩ : ∃ p, rU s1 = p := ⟨_, rfl⟩
  obtain ⟨n2, s2⟩ := p2
  have hc2 := fun W h => uintS_c W br s1 h
  rw [hp2] at hc2 ⊢
  simp only at hc2 ⊢
  obtain ⟨p3, hp3⟩ : ∃ p, rI s2 = p := ⟨_, rfl⟩
  obtain ⟨n3, s3⟩ := p3
  have hc3 := fun W h hb => number_c W br bR s2 h hb
  rw [hp3] at hc3 ⊢
  simp only [tV] at hc3 ⊢
  replace hp1 := Lib.hid hp1
  replace hp2 := Lib.hid hp2
  replace hp3 := Lib.hid hp3
  replace hc1 := Lib.hid hc1
  replace hc2 := Lib.hid hc2
  replace hc3 := Lib.hid hc3
  replace hkZ := Lib.hid hkZ
  replace hZ := Lib.hid hZ
  replace hbw := Lib.hid hbw
  replace hbR := Lib.hid hbR
  replace hbF := Lib.hid hbF
  replace h1 := Lib.hid h1
  replace hv1 := Lib.hid hv1
  clear h hres hv
  go_enter Tryz.func26, Tryz.ntmps26
  go_upto_region 1 with fail
  generalize (w.alloc (.cells #[.int .i64 0, .int .u64 0, .int .i64 0] tN)) = W at *
  obtain ⟨Z, hZZ⟩ : ∃ B, w.heap.size = B := ⟨_, rfl⟩
  rw [hZZ] at hZ hbw hbR hbF ⊢
  replace hZZ := Lib.hid hZZ
  have hqR : Hid (∀ j : Nat, (((j = 1 ∨ j = 3 ∨ j = 5) ∧ bR = br) ∨ (j = 7 ∧ bR = Z)) → False) := Lib.hid (fun j h => by
    rcases h with ⟨_, h⟩ | ⟨_, h⟩
    · exact hv1.out.rb h
    · have := hbR.out; omega)
  have hqF : Hid (∀ j : Nat, (((j = 1 ∨ j = 3 ∨ j = 5) ∧ bF = br) ∨ (j = 7 ∧ bF = Z)) → False) := Lib.hid (fun j h => by
    rcases h with ⟨_, h⟩ | ⟨_, h⟩
    · exact hv1.out.fb h
    · have := hbF.out; omega)
  obtain ⟨r0, rf, rl⟩ := cl1 hv1.out.r
  obtain ⟨f0, ff, fl⟩ := cl1 hv1.out.f
  refine Free.wp_region_chain (fun i => i == 1 || i == 3 || i == 5 || i == 7) (fun i => true) (fun j b => ((j = 1 ∨ j = 3 ∨ j = 5) ∧ b = br) ∨ (j = 7 ∧ b = Z)) (by kernel_rfl) (by kernel_rfl) (by kernel_rfl) ?_
  have hd := (Keeps.refl [] W).drew
  have hR0 := Lib.hid (h1.out.keeps hd)
  have hv0 := Lib.hid (hv1.out.keeps hd)
  have hZ0 := Lib.hid ((hd.block Z (lt_of_blk hZ.out) (by simp)).trans hZ.out)
  have hk0 : Hid (Keeps [br] w W.drew) := Lib.hid (hkZ.out.trans hd).of_nil
  clear hd
  (repeat (first | (apply Free.cw_pure rfl rfl; (intro w'; go_simp <;> exact rfl); go_frame) | (apply Free.cw_steady rfl rfl rfl; (intro w' hS; have q0 := Free.sx_cell hS f0 (fun j hp hT => hqF.out j hT); have q1 := Free.sx_cell hS r0 (fun j hp hT => hqR.out j hT); go_simp <;> exact rfl); go_frame) | (refine Free.cw_skip rfl ?_; go_frame)))
  refine Free.cw_loud rfl rfl (fun K hK => ?_)
  go_wp2_with fail
  refine (hc1.out _ hR0.out hv0.out.r).mono ?_
  rintro e w1 ⟨rfl, hR1, hk1⟩
  refine hK _ _ rfl (Free.KeepsP.of hk1 (fun b hb => .inl ⟨.inl trivial, by simpa using hb⟩)) ?_
  clear hK K
  have hv1' := Lib.hid (hv0.out.rd hk1)
  have hZ1 := Lib.hid ((hk1.block Z (lt_of_blk hZ0.out) (by have := hbw.out; simp only [List.mem_singleton]; omega)).trans hZ0.out)
  have hkk1 := Lib.hid (hk0.out.trans hk1)
  replace hR1 := Lib.hid hR1
  clear hk1
  (repeat (first | (apply Free.cw_pure rfl rfl; (intro w'; go_simp <;> exact rfl); go_frame) | (apply Free.cw_steady rfl rfl rfl; (intro w' hS; have q0 := Free.sx_cell hS f0 (fun j hp hT => hqF.out j hT); have q1 := Free.sx_cell hS r0 (fun j hp hT => hqR.out j hT); go_simp <;> exact rfl); go_frame) | (refine Free.cw_skip rfl ?_; go_frame)))
  refine Free.cw_loud rfl rfl (fun K hK => ?_)
  go_wp2_with fail
  refine (hc2.out _ hR1.out).mono ?_
  rintro e w2 ⟨rfl, hR2, hk2⟩
  refine hK _ _ rfl (Free.KeepsP.of hk2 (fun b hb => .inl ⟨.inr (.inl trivial), by simpa using hb⟩)) ?_
  clear hK K
  have hv2 := Lib.hid (hv1'.out.rd hk2)
  have hZ2 := Lib.hid ((hk2.block Z (lt_of_blk hZ1.out) (by have := hbw.out; simp only [List.mem_singleton]; omega)).trans hZ1.out)
  have hkk2 := Lib.hid (hkk1.out.trans hk2)
  replace hR2 := Lib.hid hR2
  clear hk2
  (repeat (first | (apply Free.cw_pure rfl rfl; (intro w'; go_simp <;> exact rfl); go_frame) | (apply Free.cw_steady rfl rfl rfl; (intro w' hS; have q0 := Free.sx_cell hS f0 (fun j hp hT => hqF.out j hT); have q1 := Free.sx_cell hS r0 (fun j hp hT => hqR.out j hT); go_simp <;> exact rfl); go_frame) | (refine Free.cw_skip rfl ?_; go_frame)))
  refine Free.cw_loud rfl rfl (fun K hK => ?_)
  go_wp2_with fail
  refine (hc3.out _ hR2.out hv2.out.r).mono ?_
  rintro e w3 ⟨rfl, hR3, hk3⟩
  refine hK _ _ rfl (Free.KeepsP.of hk3 (fun b hb => .inl ⟨.inr (.inr trivial), by simpa using hb⟩)) ?_
  clear hK K
  have hZ3 := Lib.hid ((hk3.block Z (lt_of_blk hZ2.out) (by have := hbw.out; simp only [List.mem_singleton]; omega)).trans hZ2.out)
  have hkk3 := Lib.hid (hkk2.out.trans hk3)
  replace hR3 := Lib.hid hR3
  clear hk3 r0 rf rl f0 ff fl
  obtain ⟨z0, z1, z2, zf, zl⟩ := cl3 hZ3.out
  (repeat (apply Free.cw_pure rfl rfl; (intro w'; go_simp <;> exact rfl); go_frame))
  obtain ⟨g1, g2⟩ := sc3 (.int .i64 n1) (.int .u64 n2) (.int .i64 n3) hZ3.out
  have hg1 := Lib.hid g1
  have hg2 := Lib.hid g2
  clear g1 g2
  refine Free.cw_loud rfl rfl (fun K hK => ?_)
  go_wp2
  refine hK _ _ rfl (Free.KeepsP.of hg2.out (fun b hb => .inr ⟨trivial, by simpa using hb⟩)) ?_
  clear hK K
  (repeat (apply Free.cw_pure rfl rfl; (intro w'; go_simp <;> exact rfl); go_frame))
  refine Free.cw_nil ?_
  clear z0 z1 z2 zf zl
  have hRe := Lib.hid (hR3.out.other hg2.out hZ3.out (by decide) (by decide))
  have hke := Lib.hid (hkk3.out.fresh hg2.out (fun b hb => by simp only [List.mem_singleton] at hb; subst hb; exact .inr (Nat.le_of_eq hZZ.out)))
  clear hg2
  generalize ((w3.setCell ⟨Z, 0, none⟩ (.int .i64 n1)).setCell ⟨Z, 1, none⟩ (.int .u64 n2)).setCell ⟨Z, 2, none⟩ (.int .i64 n3) = V at *
  go_wp2
  refine bodyPost_ret (results_n3 rfl _ _ _ _ _ _ _ _ rfl hg1.out) rfl ?_
  exact ⟨rfl, hRe.out, hke.out⟩
theorem loadi3 (w : World) (g : Nat) (t : TypeId) (x0 x1 x2 : Value) (f : Nat × Nat) (hg : w.heap[g]? = some (.cells #[x0, x1, x2] t f)) : (loadVar tI ⟨g, 0, none⟩).run Tryz.prog w = .ok (.agg #[x0, x1, x2]) w :=
  run_loadVar_row w g t tI #[x0, x1, x2] f _ hg Tryz.underlying66 rfl (show (Tryz.prog.info? tI).map (·.size) = some 3 by kernel_rfl)
theorem results_i3 {fn : Func} {p : Tmp} (h : fn.results = #[.cell p tI]) (tmps : Array Value) (w : World) (g : Nat) (t : TypeId) (x0 x1 x2 : Value) (f : Nat × Nat) (hp : tmps.getD p undef = .pointer (some ⟨g, 0, none⟩))
    (hg : w.heap[g]? = some (.cells #[x0, x1, x2] t f)) : (results fn tmps).run Tryz.prog w = .ok (.agg #[x0, x1, x2]) w := by
  have hp' : tmps[p]?.getD undef = .pointer (some ⟨g, 0, none⟩) := by simpa using hp
  simp [results, h, hp', asAddr, loadi3 w g t x0 x1 x2 f hg]
set_option maxRecDepth 100000 in
set_option maxHeartbeats 8000000 in
theorem insD_c (w : World) (br bR bF : Nat) (s : RS) (h : RdS w br s) (hv : DeV w br bR bF) :
    Calls Tryz.prog 32 #[.pointer (some ⟨bF, 0, none⟩), .pointer (some ⟨bR, 0, none⟩)] w fun e w' => e = .returned (tV (rX s).1) ∧ RdS w' br (rX s).2 ∧ Keeps [br] w w' := by
  have hkZ := (Keeps.refl [] w).alloc (.cells #[.int .i64 0, .int .u64 0, .int .i64 0] tI)
  have hZ := heap_alloc_new w (.cells #[.int .i64 0, .int .u64 0, .int .i64 0] tI)
  have h1 := h.keeps hkZ
  have hv1 := hv.keeps hkZ
  have hbw := h.lt
  have hbR := lt_of_blk hv.r
  have hbF := lt_of_blk hv.f
  have hres : (rX s) = (((rI s).1, (rU (rI s).2).1, (rI (rU (rI s).2).2).1), (rI (rU (rI s).2).2).2) := rfl
  rw [hres]
  obtain ⟨p1, hp1⟩ : ∃ p, rI s = p := ⟨_, rfl⟩
  obtain ⟨n1, s1⟩ := p1
  have hc1 := fun W h hb => number_c W br bR s h hb
  rw [hp1] at hc1 ⊢
  simp only at hc1 ⊢
  obtain ⟨p2, hp2⟩ : ∃ p, rU s1 = p := ⟨_, rfl⟩
  obtain ⟨n2, s2⟩ := p2
  have hc2 := fun W h => uintS_c W br s1 h
  rw [hp2] at hc2 ⊢
  simp only at hc2 ⊢
  obtain ⟨p3, hp3⟩ : ∃ p, rI s2 = p := ⟨_, rfl⟩
  obtain ⟨n3, s3⟩ := p3
  have hc3 := fun W h hb => number_c W br bR s2 h hb
  rw [hp3] at hc3 ⊢
  simp only [tV] at hc3 ⊢
  replace hp1 := Lib.hid hp1
  replace hp2 := Lib.hid hp2
  replace hp3 := Lib.hid hp3
  replace hc1 := Lib.hid hc1
  replace hc2 := Lib.hid hc2
  replace hc3 := Lib.hid hc3
  replace hkZ := Lib.hid hkZ
  replace hZ := Lib.hid hZ
  replace hbw := Lib.hid hbw
  replace hbR := Lib.hid hbR
  replace hbF := Lib.hid hbF
  replace h1 := Lib.hid h1
  replace hv1 := Lib.hid hv1
  clear h hres hv
  go_enter Tryz.func32, Tryz.ntmps32
  go_upto_region 1 with fail
  generalize (w.alloc (.cells #[.int .i64 0, .int .u64 0, .int .i64 0] tI)) = W at *
  obtain ⟨Z, hZZ⟩ : ∃ B, w.heap.size = B := ⟨_, rfl⟩
  rw [hZZ] at hZ hbw hbR hbF ⊢
  replace hZZ := Lib.hid hZZ
  have hqR : Hid (∀ j : Nat, (((j = 1 ∨ j = 3 ∨ j = 5) ∧ bR = br) ∨ (j = 7 ∧ bR = Z)) → False) := Lib.hid (fun j h => by
    rcases h with ⟨_, h⟩ | ⟨_, h⟩
    · exact hv1.out.rb h
    · have := hbR.out; omega)
  have hqF : Hid (∀ j : Nat, (((j = 1 ∨ j = 3 ∨ j = 5) ∧ bF = br) ∨ (j = 7 ∧ bF = Z)) → False) := Lib.hid (fun j h => by
    rcases h with ⟨_, h⟩ | ⟨_, h⟩
    · exact hv1.out.fb h
    · have := hbF.out; omega)
  obtain ⟨r0, rf, rl⟩ := cl1 hv1.out.r
  obtain ⟨f0, ff, fl⟩ := cl1 hv1.out.f
  refine Free.wp_region_chain (fun i => i == 1 || i == 3 || i == 5 || i == 7) (fun i => true) (fun j b => ((j = 1 ∨ j = 3 ∨ j = 5) ∧ b = br) ∨ (j = 7 ∧ b = Z)) (by kernel_rfl) (by kernel_rfl) (by kernel_rfl) ?_
  have hd := (Keeps.refl [] W).drew
  have hR0 := Lib.hid (h1.out.keeps hd)
  have hv0 := Lib.hid (hv1.out.keeps hd)
  have hZ0 := Lib.hid ((hd.block Z (lt_of_blk hZ.out) (by simp)).trans hZ.out)
  have hk0 : Hid (Keeps [br] w W.drew) := Lib.hid (hkZ.out.trans hd).of_nil
  clear hd
  (repeat (first | (apply Free.cw_pure rfl rfl; (intro w'; go_simp <;> exact rfl); go_frame) | (apply Free.cw_steady rfl rfl rfl; (intro w' hS; have q0 := Free.sx_cell hS f0 (fun j hp hT => hqF.out j hT); have q1 := Free.sx_cell hS r0 (fun j hp hT => hqR.out j hT); go_simp <;> exact rfl); go_frame) | (refine Free.cw_skip rfl ?_; go_frame)))
  refine Free.cw_loud rfl rfl (fun K hK => ?_)
  go_wp2_with fail
  refine (hc1.out _ hR0.out hv0.out.r).mono ?_
  rintro e w1 ⟨rfl, hR1, hk1⟩
  refine hK _ _ rfl (Free.KeepsP.of hk1 (fun b hb => .inl ⟨.inl trivial, by simpa using hb⟩)) ?_
  clear hK K
  have hv1' := Lib.hid (hv0.out.rd hk1)
  have hZ1 := Lib.hid ((hk1.block Z (lt_of_blk hZ0.out) (by have := hbw.out; simp only [List.mem_singleton]; omega)).trans hZ0.out)
  have hkk1 := Lib.hid (hk0.out.trans hk1)
  replace hR1 := Lib.hid hR1
  clear hk1
  (repeat (first | (apply Free.cw_pure rfl rfl; (intro w'; go_simp <;> exact rfl); go_frame) | (apply Free.cw_steady rfl rfl rfl; (intro w' hS; have q0 := Free.sx_cell hS f0 (fun j hp hT => hqF.out j hT); have q1 := Free.sx_cell hS r0 (fun j hp hT => hqR.out j hT); go_simp <;> exact rfl); go_frame) | (refine Free.cw_skip rfl ?_; go_frame)))
  refine Free.cw_loud rfl rfl (fun K hK => ?_)
  go_wp2_with fail
  refine (hc2.out _ hR1.out).mono ?_
  rintro e w2 ⟨rfl, hR2, hk2⟩
  refine hK _ _ rfl (Free.KeepsP.of hk2 (fun b hb => .inl ⟨.inr (.inl trivial), by simpa using hb⟩)) ?_
  clear hK K
  have hv2 := Lib.hid (hv1'.out.rd hk2)
  have hZ2 := Lib.hid ((hk2.block Z (lt_of_blk hZ1.out) (by have := hbw.out; simp only [List.mem_singleton]; omega)).trans hZ1.out)
  have hkk2 := Lib.hid (hkk1.out.trans hk2)
  replace hR2 := Lib.hid hR2
  clear hk2
  (repeat (first | (apply Free.cw_pure rfl rfl; (intro w'; go_simp <;> exact rfl); go_frame) | (apply Free.cw_steady rfl rfl rfl; (intro w' hS; have q0 := Free.sx_cell hS f0 (fun j hp hT => hqF.out j hT); have q1 := Free.sx_cell hS r0 (fun j hp hT => hqR.out j hT); go_simp <;> exact rfl); go_frame) | (refine Free.cw_skip rfl ?_; go_frame)))
  refine Free.cw_loud rfl rfl (fun K hK => ?_)
  go_wp2_with fail
  refine (hc3.out _ hR2.out hv2.out.r).mono ?_
  rintro e w3 ⟨rfl, hR3, hk3⟩
  refine hK _ _ rfl (Free.KeepsP.of hk3 (fun b hb => .inl ⟨.inr (.inr trivial), by simpa using hb⟩)) ?_
  clear hK K
  have hZ3 := Lib.hid ((hk3.block Z (lt_of_blk hZ2.out) (by have := hbw.out; simp only [List.mem_singleton]; omega)).trans hZ2.out)
  have hkk3 := Lib.hid (hkk2.out.trans hk3)
  replace hR3 := Lib.hid hR3
  clear hk3 r0 rf rl f0 ff fl
  obtain ⟨z0, z1, z2, zf, zl⟩ := cl3 hZ3.out
  (repeat (apply Free.cw_pure rfl rfl; (intro w'; go_simp <;> exact rfl); go_frame))
  obtain ⟨g1, g2⟩ := sc3 (.int .i64 n1) (.int .u64 n2) (.int .i64 n3) hZ3.out
  have hg1 := Lib.hid g1
  have hg2 := Lib.hid g2
  clear g1 g2
  refine Free.cw_loud rfl rfl (fun K hK => ?_)
  go_wp2
  refine hK _ _ rfl (Free.KeepsP.of hg2.out (fun b hb => .inr ⟨trivial, by simpa using hb⟩)) ?_
  clear hK K
  (repeat (apply Free.cw_pure rfl rfl; (intro w'; go_simp <;> exact rfl); go_frame))
  refine Free.cw_nil ?_
  clear z0 z1 z2 zf zl
  have hRe := Lib.hid (hR3.out.other hg2.out hZ3.out (by decide) (by decide))
  have hke := Lib.hid (hkk3.out.fresh hg2.out (fun b hb => by simp only [List.mem_singleton] at hb; subst hb; exact .inr (Nat.le_of_eq hZZ.out)))
  clear hg2
  generalize ((w3.setCell ⟨Z, 0, none⟩ (.int .i64 n1)).setCell ⟨Z, 1, none⟩ (.int .u64 n2)).setCell ⟨Z, 2, none⟩ (.int .i64 n3) = V at *
  go_wp2
  refine bodyPost_ret (results_i3 rfl _ _ _ _ _ _ _ _ rfl hg1.out) rfl ?_
  exact ⟨rfl, hRe.out, hke.out⟩
end Go.Proofs.YtiplgpefapeapaaGreat

namespace Go.Proofs.YtiplgpefapeapaaGreat
open Go.RowKit

abbrev fIns (bF bR : Nat) : Value := .func (.func 32) #[] #[.pointer (some ⟨bF, 0, none⟩), .pointer (some ⟨bR, 0, none⟩)]
/-- Reading goes on, error or not. -/
def pXc : Nat → RS → List T3 → List T3 × RS
  | 0, s, L => (L, s)
  | n + 1, s, L => pXc n (rX s).2 (L ++ [(rX s).1])
def pNs (s : RS) : List T3 × RS := pXc (rCS 1024 s).1 (rCS 1024 s).2 []
set_option maxRecDepth 100000 in
set_option maxHeartbeats 8000000 in
theorem readN_c (w : World) (br bR bF : Nat) (s : RS) (h : RdS w br s) (hv : DeV w br bR bF) :
    Calls Tryz.prog 35 #[.pointer (some ⟨br, 0, none⟩), fOne bF bR] w fun e w' => ∃ v, e = .returned v ∧ shT.O w' w.heap.size tN v (pNs s).1 ∧ RdS w' br (pNs s).2 ∧ Keeps [br] w w' := by
  have hlt := h.lt
  have hltR := lt_of_blk hv.r
  have hltF := lt_of_blk hv.f
  unfold pNs
  have hle := rCS_le 1024 s
  have hc := countS_c 1024 (by omega) w br s h
  obtain ⟨p, hp⟩ : ∃ p, rCS 1024 s = p := ⟨_, rfl⟩
  obtain ⟨M, s0⟩ := p
  rw [hp] at hc hle ⊢
  simp only at hc hle ⊢
  obtain ⟨B, hB⟩ : ∃ B, w.heap.size = B := ⟨_, rfl⟩
  obtain ⟨r, hr⟩ : ∃ r, pXc M s0 [] = r := ⟨_, rfl⟩
  rw [hr]
  rw [hB] at hlt hltR hltF ⊢
  replace hp := Lib.hid hp
  replace hc := Lib.hid hc
  replace hr := Lib.hid hr
  replace hlt := Lib.hid hlt
  replace hltR := Lib.hid hltR
  replace hltF := Lib.hid hltF
  replace hB := Lib.hid hB
  replace hv := Lib.hid hv
  clear h
  go_enter Tryz.func35, Tryz.ntmps35
  go_wp2_with fail
  refine hc.out.mono ?_
  rintro e w1 ⟨rfl, hR1, hk1⟩
  have hv1 := Lib.hid (hv.out.rd hk1)
  replace hR1 := Lib.hid hR1
  have hk01 := Lib.hid hk1
  clear hk1 hc hv
  go_wp2
  go_loopw [5, 8] (fun lv i wr => ∃ (k : Nat) (L : List T3) (sk : RS), i = .int .i64 k ∧ k ≤ M ∧ Hid (shT.O wr B tN lv L) ∧ Hid (L.length ≤ k) ∧ Hid (pXc (M - k) sk L = r) ∧ Hid (RdS wr br sk) ∧ Hid (DeV wr br bR bF) ∧ Hid (Keeps [br] w wr)) (fun _ i _ => M - (intOf i).toNat)
  case atStart => exact ⟨0, [], s0, rfl, by omega, Lib.hid (Sh.O.nil _ _ _ _), Lib.hid (by simp), Lib.hid hr.out, hR1, hv1, hk01⟩
  case round =>
    obtain ⟨k, L, sk, rfl, hk, hO, hLk, hrk, hRr, hvk, hkw⟩ := hrel
    obtain ⟨oa, oc, hov⟩ := hO.out.form
    subst hov
    by_cases hlt2 : k < M
    · have hlt3 : (k : Int) < M := by omega
      obtain ⟨j, hj⟩ : ∃ j, M - k = j + 1 := ⟨M - k - 1, by omega⟩
      have hj2 : M - (k + 1) = j := by omega
      have hstep : pXc (M - (k + 1)) (rX sk).2 (L ++ [(rX sk).1]) = r := by
        have := hrk.out
        rw [hj] at this
        rw [hj2]
        unfold pXc at this
        exact this
      obtain ⟨z, hz⟩ : ∃ z, rX sk = z := ⟨_, rfl⟩
      obtain ⟨⟨n0, n1, n2⟩, s2⟩ := z
      have hcall := one_c wr br bR bF sk hRr.out hvk.out
      rw [hz] at hcall hstep
      simp only [tV] at hcall hstep
      obtain ⟨N, hN⟩ : ∃ N, L.length = N := ⟨_, rfl⟩
      rw [hN] at hLk hO ⊢
      have hN1 : N ≤ 1024 := by have := hLk.out; omega
      replace hz := Lib.hid hz
      replace hcall := Lib.hid hcall
      replace hstep := Lib.hid hstep
      replace hN := Lib.hid hN
      replace hj := Lib.hid hj
      replace hj2 := Lib.hid hj2
      go_wp2_with fail
      refine hcall.out.mono ?_
      rintro e w2 ⟨rfl, hR2, hk2⟩
      have hO2 := hO.out.keepS hk2 (fun b hb => by simp only [List.mem_singleton] at hb; subst hb; intro e; have h2 := hO.out.ge _ e; have h3 := hlt.out; omega)
      have hmade := Sh.R.made shT w2 [(n0, n1, n2)] #[.int .i64 n0, .int .u64 n1, .int .i64 n2] tN rfl (by simp [maxLen]) 1 rfl
      have hkM := (Keeps.refl [] w2).alloc (.cells #[.int .i64 n0, .int .u64 n1, .int .i64 n2] tN)
      have hOM := hO2.keeps hkM
      have hRM := hR2.keeps hkM
      have hvM := (hvk.out.rd hk2).keeps hkM
      have hkwM := (hkw.out.trans hk2).trans hkM.of_nil
      have hsz : B ≤ (w2.alloc (.cells #[.int .i64 n0, .int .u64 n1, .int .i64 n2] tN)).heap.size := by have := hkwM.size; have := hB.out; omega
      replace hmade := Lib.hid hmade
      replace hOM := Lib.hid hOM
      replace hRM := Lib.hid hRM
      replace hvM := Lib.hid hvM
      replace hkwM := Lib.hid hkwM
      clear hkM hO2 hR2 hk2 hcall
      go_wp2_with (first
        | (at_builtin; (refine Sh.wpl_app shT B infoN rfl Tryz.underlying42 (.slice oa N oc) (.slice (some ⟨w2.heap.size, 0, none⟩) 1 1) L [(n0, n1, n2)] rfl _ _ rfl rfl rfl hOM.out hmade.out (by rw [hN.out]; simp only [List.length_singleton]; omega) hsz ?_; intro v5 w5 hO5 hG5; have hge5 := hOM.out.ge; have hR5 := hRM.out.moved hG5.keepsO (fun hm => by have h2 := hge5 br (by simpa using hm); have h3 := hlt.out; omega) (fun b hm cs e => by obtain ⟨cs', hc⟩ := hOM.out.tag b (by simpa using hm); rw [hc] at e; cases e); have hv5 := hvM.out.keep hG5.keepsO (fun hm => by have h2 := hge5 bR (by simpa using hm); have h3 := hltR.out; omega) (fun hm => by have h2 := hge5 bF (by simpa using hm); have h3 := hltF.out; omega); have hk5 := hkwM.out.fresh hG5.keepsO (fun b hb => .inr (by have h2 := hge5 b (by simpa using hb); have h3 := hB.out; omega)); replace hO5 := Lib.hid hO5; replace hR5 := Lib.hid hR5; replace hv5 := Lib.hid hv5; replace hk5 := Lib.hid hk5; clear hG5 hge5))
        | fail)
      go_roundw
      case rel => exact ⟨k + 1, L ++ [(n0, n1, n2)], s2, rfl, by omega, hO5, Lib.hid (by rw [List.length_append, hN.out]; have := hLk.out; simp; omega), hstep, hR5, hv5, hk5⟩
      case measure => simp [intOf]; omega
    · have hlt3 : ¬ ((k : Int) < M) := by omega
      have hlt4 : decide ((k : Int) < (M : Int)) = false := by simp; omega
      have hend : r = (L, sk) := by
        have := hrk.out
        rw [show M - k = 0 by omega] at this
        exact this.symm
      replace hend := Lib.hid hend
      go_wp2
      go_ret
      exact ⟨_, rfl, by rw [hend.out]; exact hO.out, by rw [hend.out]; exact hRr.out, hkw.out⟩
set_option maxRecDepth 100000 in
set_option maxHeartbeats 8000000 in
theorem readI_c (w : World) (br bR bF : Nat) (s : RS) (h : RdS w br s) (hv : DeV w br bR bF) :
    Calls Tryz.prog 31 #[.pointer (some ⟨br, 0, none⟩), fIns bF bR] w fun e w' => ∃ v, e = .returned v ∧ shT.O w' w.heap.size tI v (pNs s).1 ∧ RdS w' br (pNs s).2 ∧ Keeps [br] w w' := by
  have hlt := h.lt
  have hltR := lt_of_blk hv.r
  have hltF := lt_of_blk hv.f
  unfold pNs
  have hle := rCS_le 1024 s
  have hc := countS_c 1024 (by omega) w br s h
  obtain ⟨p, hp⟩ : ∃ p, rCS 1024 s = p := ⟨_, rfl⟩
  obtain ⟨M, s0⟩ := p
  rw [hp] at hc hle ⊢
  simp only at hc hle ⊢
  obtain ⟨B, hB⟩ : ∃ B, w.heap.size = B := ⟨_, rfl⟩
  obtain ⟨r, hr⟩ : ∃ r, pXc M s0 [] = r := ⟨_, rfl⟩
  rw [hr]
  rw [hB] at hlt hltR hltF ⊢
  replace hp := Lib.hid hp
  replace hc := Lib.hid hc
  replace hr := Lib.hid hr
  replace hlt := Lib.hid hlt
  replace hltR := Lib.hid hltR
  replace hltF := Lib.hid hltF
  replace hB := Lib.hid hB
  replace hv := Lib.hid hv
  clear h
  go_enter Tryz.func31, Tryz.ntmps31
  go_wp2_with fail
  refine hc.out.mono ?_
  rintro e w1 ⟨rfl, hR1, hk1⟩
  have hv1 := Lib.hid (hv.out.rd hk1)
  replace hR1 := Lib.hid hR1
  have hk01 := Lib.hid hk1
  clear hk1 hc hv
  go_wp2
  go_loopw [5, 8] (fun lv i wr => ∃ (k : Nat) (L : List T3) (sk : RS), i = .int .i64 k ∧ k ≤ M ∧ Hid (shT.O wr B tI lv L) ∧ Hid (L.length ≤ k) ∧ Hid (pXc (M - k) sk L = r) ∧ Hid (RdS wr br sk) ∧ Hid (DeV wr br bR bF) ∧ Hid (Keeps [br] w wr)) (fun _ i _ => M - (intOf i).toNat)
  case atStart => exact ⟨0, [], s0, rfl, by omega, Lib.hid (Sh.O.nil _ _ _ _), Lib.hid (by simp), Lib.hid hr.out, hR1, hv1, hk01⟩
  case round =>
    obtain ⟨k, L, sk, rfl, hk, hO, hLk, hrk, hRr, hvk, hkw⟩ := hrel
    obtain ⟨oa, oc, hov⟩ := hO.out.form
    subst hov
    by_cases hlt2 : k < M
    · have hlt3 : (k : Int) < M := by omega
      obtain ⟨j, hj⟩ : ∃ j, M - k = j + 1 := ⟨M - k - 1, by omega⟩
      have hj2 : M - (k + 1) = j := by omega
      have hstep : pXc (M - (k + 1)) (rX sk).2 (L ++ [(rX sk).1]) = r := by
        have := hrk.out
        rw [hj] at this
        rw [hj2]
        unfold pXc at this
        exact this
      obtain ⟨z, hz⟩ : ∃ z, rX sk = z := ⟨_, rfl⟩
      obtain ⟨⟨n0, n1, n2⟩, s2⟩ := z
      have hcall := insD_c wr br bR bF sk hRr.out hvk.out
      rw [hz] at hcall hstep
      simp only [tV] at hcall hstep
      obtain ⟨N, hN⟩ : ∃ N, L.length = N := ⟨_, rfl⟩
      rw [hN] at hLk hO ⊢
      have hN1 : N ≤ 1024 := by have := hLk.out; omega
      replace hz := Lib.hid hz
      replace hcall := Lib.hid hcall
      replace hstep := Lib.hid hstep
      replace hN := Lib.hid hN
      replace hj := Lib.hid hj
      replace hj2 := Lib.hid hj2
      go_wp2_with fail
      refine hcall.out.mono ?_
      rintro e w2 ⟨rfl, hR2, hk2⟩
      have hO2 := hO.out.keepS hk2 (fun b hb => by simp only [List.mem_singleton] at hb; subst hb; intro e; have h2 := hO.out.ge _ e; have h3 := hlt.out; omega)
      have hmade := Sh.R.made shT w2 [(n0, n1, n2)] #[.int .i64 n0, .int .u64 n1, .int .i64 n2] tI rfl (by simp [maxLen]) 1 rfl
      have hkM := (Keeps.refl [] w2).alloc (.cells #[.int .i64 n0, .int .u64 n1, .int .i64 n2] tI)
      have hOM := hO2.keeps hkM
      have hRM := hR2.keeps hkM
      have hvM := (hvk.out.rd hk2).keeps hkM
      have hkwM := (hkw.out.trans hk2).trans hkM.of_nil
      have hsz : B ≤ (w2.alloc (.cells #[.int .i64 n0, .int .u64 n1, .int .i64 n2] tI)).heap.size := by have := hkwM.size; have := hB.out; omega
      replace hmade := Lib.hid hmade
      replace hOM := Lib.hid hOM
      replace hRM := Lib.hid hRM
      replace hvM := Lib.hid hvM
      replace hkwM := Lib.hid hkwM
      clear hkM hO2 hR2 hk2 hcall
      go_wp2_with (first
        | (at_builtin; (refine Sh.wpl_app shT B infoI rfl Tryz.underlying44 (.slice oa N oc) (.slice (some ⟨w2.heap.size, 0, none⟩) 1 1) L [(n0, n1, n2)] rfl _ _ rfl rfl rfl hOM.out hmade.out (by rw [hN.out]; simp only [List.length_singleton]; omega) hsz ?_; intro v5 w5 hO5 hG5; have hge5 := hOM.out.ge; have hR5 := hRM.out.moved hG5.keepsO (fun hm => by have h2 := hge5 br (by simpa using hm); have h3 := hlt.out; omega) (fun b hm cs e => by obtain ⟨cs', hc⟩ := hOM.out.tag b (by simpa using hm); rw [hc] at e; cases e); have hv5 := hvM.out.keep hG5.keepsO (fun hm => by have h2 := hge5 bR (by simpa using hm); have h3 := hltR.out; omega) (fun hm => by have h2 := hge5 bF (by simpa using hm); have h3 := hltF.out; omega); have hk5 := hkwM.out.fresh hG5.keepsO (fun b hb => .inr (by have h2 := hge5 b (by simpa using hb); have h3 := hB.out; omega)); replace hO5 := Lib.hid hO5; replace hR5 := Lib.hid hR5; replace hv5 := Lib.hid hv5; replace hk5 := Lib.hid hk5; clear hG5 hge5))
        | fail)
      go_roundw
      case rel => exact ⟨k + 1, L ++ [(n0, n1, n2)], s2, rfl, by omega, hO5, Lib.hid (by rw [List.length_append, hN.out]; have := hLk.out; simp; omega), hstep, hR5, hv5, hk5⟩
      case measure => simp [intOf]; omega
    · have hlt3 : ¬ ((k : Int) < M) := by omega
      have hlt4 : decide ((k : Int) < (M : Int)) = false := by simp; omega
      have hend : r = (L, sk) := by
        have := hrk.out
        rw [show M - k = 0 by omega] at this
        exact this.symm
      replace hend := Lib.hid hend
      go_wp2
      go_ret
      exact ⟨_, rfl, by rw [hend.out]; exact hO.out, by rw [hend.out]; exact hRr.out, hkw.out⟩
end Go.Proofs.YtiplgpefapeapaaGreat

namespace Go.Proofs.YtiplgpefapeapaaGreat
open Go.RowKit

theorem rU_st {s : RS} (h : s.2 ≠ 0) : (rU s).2 = s := by unfold rU; rw [if_neg h]
theorem rB_st {s : RS} (h : s.2 ≠ 0) : (rB s).2 = s := by unfold rB; rw [if_neg h]
theorem rI_st {s : RS} (h : s.2 ≠ 0) : (rI s).2 = s := by unfold rI; exact rU_st h
theorem rCS_st {s : RS} (K : Nat) (h : s.2 ≠ 0) : rCS K s = (0, s) := by unfold rCS; rw [if_neg h]
theorem rX_st {s : RS} (h : s.2 ≠ 0) : (rX s).2 = s := by
  have h1 := rI_st h
  have h2 := rU_st h
  unfold rX
  simp only [h1, h2]
theorem pXc_st (n : Nat) (s : RS) (L : List T3) (h : s.2 ≠ 0) : (pXc n s L).2 = s := by
  induction n generalizing L with
  | zero => rfl
  | succ n ih => unfold pXc; rw [rX_st h]; exact ih _
/-- Both lists of needs go wrong together, and are the same where they do not. -/
theorem pXc_eq (n : Nat) (s : RS) (L : List T3) : ((pXc n s L).2.2 = 0 → pXc n s L = rXc n s L) ∧ ((pXc n s L).2.2 ≠ 0 → (rXc n s L).2.2 ≠ 0) := by
  induction n generalizing s L with
  | zero => exact ⟨fun _ => rfl, fun h => h⟩
  | succ n ih =>
    by_cases hs : s.2 = 0
    · unfold pXc rXc
      rw [if_pos hs]
      exact ih _ _
    · have e : (pXc (n + 1) s L).2 = s := pXc_st _ _ _ hs
      rw [e]
      refine ⟨fun h => absurd h hs, fun h => ?_⟩
      unfold rXc
      rw [if_neg hs]
      exact h
theorem pNs_eq (s : RS) : ((pNs s).2.2 = 0 → pNs s = rNs s) ∧ ((pNs s).2.2 ≠ 0 → (rNs s).2.2 ≠ 0) := pXc_eq _ _ _
theorem pNs_st {s : RS} (h : s.2 ≠ 0) : (pNs s).2 = s := by
  unfold pNs
  rw [rCS_st 1024 h]
  rfl
theorem f7_st {s : RS} (h : s.2 ≠ 0) : f7 s = s := by
  have a1 := rI_st h
  have a2 := rU_st h
  have a3 := rB_st h
  unfold f7 f6 f5 f4 f3 f2 f1
  simp only [a1, a2, a3]
/-- An answer, read by the program. -/
def pAs (s : RS) : Ans × RS := ({ rA0 s with ins := (pNs (f7 s)).1 }, (pNs (f7 s)).2)
theorem pAs_eq (s : RS) : ((pAs s).2.2 = 0 → pAs s = rAs s) ∧ ((pAs s).2.2 ≠ 0 → (rAs s).2.2 ≠ 0) := by
  have h := pNs_eq (f7 s)
  refine ⟨fun h0 => ?_, fun h0 => ?_⟩
  · have := h.1 h0
    unfold pAs
    rw [this]
    rfl
  · exact h.2 h0
theorem pAs_st {s : RS} (h : s.2 ≠ 0) : (pAs s).2 = s := by
  unfold pAs
  rw [f7_st h]
  exact pNs_st h
end Go.Proofs.YtiplgpefapeapaaGreat

namespace Go.Proofs.YtiplgpefapeapaaGreat
open Go.RowKit

theorem rNs_st {s : RS} (h : s.2 ≠ 0) : (rNs s).2 = s := by
  unfold rNs
  rw [rCS_st 1024 h]
  rfl
def pPs (s : RS) : PCl × RS :=
  (⟨(rI s).1, (rI (rI s).2).1, (pNs (rI (rI s).2).2).1, (pNs (pNs (rI (rI s).2).2).2).1, (pNs (pNs (pNs (rI (rI s).2).2).2).2).1⟩, (pNs (pNs (pNs (rI (rI s).2).2).2).2).2)
theorem pPs_st {s : RS} (h : s.2 ≠ 0) : (pPs s).2 = s := by
  have a1 := rI_st h
  have a2 := pNs_st h
  unfold pPs
  simp only [a1, a2]
theorem pPs_eq (s : RS) : ((pPs s).2.2 = 0 → pPs s = rPs s) ∧ ((pPs s).2.2 ≠ 0 → (rPs s).2.2 ≠ 0) := by
  unfold pPs rPs
  obtain ⟨t, ht⟩ : ∃ t, (rI (rI s).2).2 = t := ⟨_, rfl⟩
  rw [ht]
  by_cases h1 : (pNs t).2.2 = 0
  · rw [(pNs_eq t).1 h1]
    obtain ⟨t1, ht1⟩ : ∃ x, (rNs t).2 = x := ⟨_, rfl⟩
    rw [ht1]
    by_cases h2 : (pNs t1).2.2 = 0
    · rw [(pNs_eq t1).1 h2]
      obtain ⟨t2, ht2⟩ : ∃ x, (rNs t1).2 = x := ⟨_, rfl⟩
      rw [ht2]
      refine ⟨fun h => ?_, fun h => (pNs_eq t2).2 h⟩
      have h3 : (pNs t2).2.2 = 0 := h
      rw [(pNs_eq t2).1 h3]
    · refine ⟨fun h => ?_, fun _ => ?_⟩
      · have h3 : (pNs (pNs t1).2).2.2 = 0 := h
        rw [pNs_st h2] at h3
        exact absurd h3 h2
      · show (rNs (rNs t1).2).2.2 ≠ 0
        have h3 := (pNs_eq t1).2 h2
        rw [rNs_st h3]
        exact h3
  · refine ⟨fun h => ?_, fun _ => ?_⟩
    · have h3 : (pNs (pNs (pNs t).2).2).2.2 = 0 := h
      rw [pNs_st h1, pNs_st h1] at h3
      exact absurd h3 h1
    · show (rNs (rNs (rNs t).2).2).2.2 ≠ 0
      have h3 := (pNs_eq t).2 h1
      rw [rNs_st h3, rNs_st h3]
      exact h3
def pYc : Nat → RS → List Ans → List Ans × RS
  | 0, s, L => (L, s)
  | n + 1, s, L => pYc n (pAs s).2 (L ++ [(pAs s).1])
def pPc : Nat → RS → List PCl → List PCl × RS
  | 0, s, L => (L, s)
  | n + 1, s, L => pPc n (pPs s).2 (L ++ [(pPs s).1])
theorem pYc_st (n : Nat) (s : RS) (L : List Ans) (h : s.2 ≠ 0) : (pYc n s L).2 = s := by
  induction n generalizing L with
  | zero => rfl
  | succ n ih => unfold pYc; rw [pAs_st h]; exact ih _
theorem pPc_st (n : Nat) (s : RS) (L : List PCl) (h : s.2 ≠ 0) : (pPc n s L).2 = s := by
  induction n generalizing L with
  | zero => rfl
  | succ n ih => unfold pPc; rw [pPs_st h]; exact ih _
theorem rYc_st (n : Nat) (s : RS) (L : List Ans) (h : s.2 ≠ 0) : (rYc n s L).2 = s := by
  cases n with
  | zero => rfl
  | succ n => unfold rYc; rw [if_neg h]
theorem rPc_st (n : Nat) (s : RS) (L : List PCl) (h : s.2 ≠ 0) : (rPc n s L).2 = s := by
  cases n with
  | zero => rfl
  | succ n => unfold rPc; rw [if_neg h]
theorem pYc_eq (n : Nat) (s : RS) (L : List Ans) : ((pYc n s L).2.2 = 0 → pYc n s L = rYc n s L) ∧ ((pYc n s L).2.2 ≠ 0 → (rYc n s L).2.2 ≠ 0) := by
  induction n generalizing s L with
  | zero => exact ⟨fun _ => rfl, fun h => h⟩
  | succ n ih =>
    by_cases hs : s.2 = 0
    · unfold pYc rYc
      rw [if_pos hs]
      by_cases h1 : (pAs s).2.2 = 0
      · rw [(pAs_eq s).1 h1]
        exact ih _ _
      · have h2 := (pAs_eq s).2 h1
        rw [pYc_st _ _ _ h1, rYc_st _ _ _ h2]
        exact ⟨fun h => absurd h h1, fun _ => h2⟩
    · rw [pYc_st _ _ _ hs, rYc_st _ _ _ hs]
      exact ⟨fun h => absurd h hs, fun h => h⟩
theorem pPc_eq (n : Nat) (s : RS) (L : List PCl) : ((pPc n s L).2.2 = 0 → pPc n s L = rPc n s L) ∧ ((pPc n s L).2.2 ≠ 0 → (rPc n s L).2.2 ≠ 0) := by
  induction n generalizing s L with
  | zero => exact ⟨fun _ => rfl, fun h => h⟩
  | succ n ih =>
    by_cases hs : s.2 = 0
    · unfold pPc rPc
      rw [if_pos hs]
      by_cases h1 : (pPs s).2.2 = 0
      · rw [(pPs_eq s).1 h1]
        exact ih _ _
      · have h2 := (pPs_eq s).2 h1
        rw [pPc_st _ _ _ h1, rPc_st _ _ _ h2]
        exact ⟨fun h => absurd h h1, fun _ => h2⟩
    · rw [pPc_st _ _ _ hs, rPc_st _ _ _ hs]
      exact ⟨fun h => absurd h hs, fun h => h⟩
def eY (l : List UInt8) : List Ans × RS := pYc (rCS 1024 (rX (rI (rI (l, 0)).2).2).2).1 (rCS 1024 (rX (rI (rI (l, 0)).2).2).2).2 []
def eP (l : List UInt8) : List PCl × RS := pPc (rCS 1024 (eY l).2).1 (rCS 1024 (eY l).2).2 []
def eCt (l : List UInt8) : Ct := ⟨(rI (l, 0)).1, (rI (rI (l, 0)).2).1, (rX (rI (rI (l, 0)).2).2).1, (eY l).1, (eP l).1⟩
/-- What the program's Decode gives. -/
def decE (l : List UInt8) : Option Ct := if (eP l).2.2 = 0 ∧ doneE (eP l).2.1 (eP l).2.2 = 0 then some (eCt l) else none
theorem eP_eq (l : List UInt8) : ((eP l).2.2 = 0 → eP l = dP l ∧ eY l = dY l) ∧ ((eP l).2.2 ≠ 0 → (dP l).2.2 ≠ 0) := by
  have hY : ((eY l).2.2 = 0 → eY l = dY l) ∧ ((eY l).2.2 ≠ 0 → (dY l).2.2 ≠ 0) := pYc_eq _ _ _
  by_cases h1 : (eY l).2.2 = 0
  · have e := hY.1 h1
    unfold eP dP
    rw [e]
    have hP := pPc_eq (rCS 1024 (dY l).2).1 (rCS 1024 (dY l).2).2 []
    exact ⟨fun h => ⟨hP.1 h, rfl⟩, hP.2⟩
  · have h2 := hY.2 h1
    have e1 : (eP l).2 = (eY l).2 := by unfold eP; rw [rCS_st 1024 h1]; rfl
    have e2 : (dP l).2 = (dY l).2 := by unfold dP; rw [rCS_st 1024 h2]; rfl
    rw [e1, e2]
    exact ⟨fun h => absurd h h1, fun _ => h2⟩
/-- Where the encoding of what is read is what was read, the two agree. -/
theorem decE_eq (l : List UInt8) (hc : (dP l).2.2 = 0 → doneE (dP l).2.1 (dP l).2.2 = 0 → encCt (dCt l) = l) : decE l = decS l := by
  have h := eP_eq l
  unfold decE decS
  by_cases h1 : (eP l).2.2 = 0
  · obtain ⟨e1, e2⟩ := h.1 h1
    have e3 : eCt l = dCt l := by unfold eCt dCt; rw [e1, e2]
    rw [e1, e3]
    by_cases h2 : (dP l).2.2 = 0 ∧ doneE (dP l).2.1 (dP l).2.2 = 0
    · rw [if_pos h2, if_pos ⟨h2.1, h2.2, hc h2.1 h2.2⟩]
    · rw [if_neg h2, if_neg (fun x => h2 ⟨x.1, x.2.1⟩)]
  · have h2 := h.2 h1
    rw [if_neg (fun x => h1 x.1), if_neg (fun x => h2 x.1)]
end Go.Proofs.YtiplgpefapeapaaGreat
