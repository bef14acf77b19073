/- The law CertificateLists: it returns true for every input whose bulk is at most 1048576 (the statement's own bound), where three tables of the library hold what the program's text lays; and its card. (Printed by mklslaw.py.) -/
import Derived.Test.YtiplgpefapeapaaGreatDoorL10
import Derived.Test.YtiplgpefapeapaaGreatDoorCards
import Derived.Test.YtiplgpefapeapaaGreatDoorTie
import Derived.JoinedCond
import Derived.OpenShut
import Derived.Deep.DeepHandedRow
import Derived.Lib.LaidTab
import Derived.Stop.LaidErr
set_option linter.unusedVariables false
set_option linter.unusedSimpArgs false
namespace Go.Proofs.YtiplgpefapeapaaGreatDoor
open Go.ChangeShapes Go.WideShapes Go.ChangeAt Go.RowKit

theorem gPow : ∃ g, Tryz.prog.globalNamed "internal/strconv.uint64pow10" = some g ∧ (Tryz.prog.globals[g]?).map (·.type) = some 163 := ⟨0, by kernel_rfl, by kernel_rfl⟩
theorem tab_of_laid {W : World} (h : laidMetH Tryz.prog Rows.certificateListsUptoRow.laid W) : TabW W := by
  obtain ⟨g, hg, hty⟩ := gPow
  have h1 : laidMet Tryz.prog (("math/bits.deBruijn32tab", Rows.laid_math_bits_deBruijn32tab) :: ("math/bits.deBruijn64tab", Rows.laid_math_bits_deBruijn64tab) :: [("internal/strconv.uint64pow10", Rows.laid_internal_strconv_uint64pow10)]) W := h
  exact Lib.tabIs_of_head (rest := []) hg hty Tryz.underlying163 Tryz.underlying24 (by kernel_rfl) (by kernel_rfl) h1.tail.tail
/-- A table's cells. -/
def laidCs : DataW Unit → Array Value
  | .agg l => (l.map (fun d => match d with | .lit (.int k z) => Value.int k z | _ => .bool false)).toArray
  | _ => #[]
/-- A world for the witness: the settled one, the tables holding what the text lays. -/
def layTab (h : Array Obj) (g : Nat) (d : DataW Unit) : Array Obj := h.modify g (fun o => match o with
  | .cells _ t frozen => .cells (laidCs d) t frozen
  | o => o)
noncomputable def lsHeap (os : Os) : Array Obj := layTab (layTab (layTab (World.holding Tryz.prog os ⟨#[], #[], []⟩).heap 2 Rows.laid_math_bits_deBruijn32tab) 3 Rows.laid_math_bits_deBruijn64tab) 0 Rows.laid_internal_strconv_uint64pow10
noncomputable def lsWorld (os : Os) : World := { World.holding Tryz.prog os ⟨#[], #[], []⟩ with heap := lsHeap os }
abbrev lsArgs : Array Value := #[.agg #[.int .i64 0, .int .i64 0, .int .i64 0, .int .u64 0, .int .i64 0, .slice none 0 0, .slice none 0 0]]
theorem ls_met (os : Os) : laidMet Tryz.prog Rows.certificateListsUptoRow.laid ((lsWorld os).forCall (fun _ _ => 0) ⟨#[], lsArgs, []⟩).memory :=
  laidMet_of_run' 8 (by kernel_rfl) (by kernel_rfl)
theorem ls_reads (os : Os) {H : Type} (enc : TypeId × Value → H) : ∃ places, DataW.whole enc Tryz.prog ((lsWorld os).forCall (fun _ _ => 0) ⟨#[], lsArgs, []⟩).memory Tryz.f3.params.toList Rows.certificateListsSpec.vars false lsArgs.toList 8 = some ([.agg [.agg [.lit (.int .i64 0), .lit (.int .i64 0)], .agg [.lit (.int .i64 0), .lit (.int .u64 0), .lit (.int .i64 0)], .nil, .nil]], [], places) :=
  ⟨[], by kernel_rfl⟩

set_option maxRecDepth 100000 in
theorem certificateListsUpto_lifted (os : Os) (started : os.Started) (H : Type) (enc : TypeId × Value → H) (F : Stop.Interp) :
    ReturnsInHanded {} Tryz.checked os 3 .any ((Rows.OpenSpec.upto Rows.certificateListsSpec).preRow enc Tryz.prog Tryz.f3 Rows.certificateListsUptoRow.domain false Rows.certificateListsUptoRow.laid) (((Rows.OpenSpec.upto Rows.certificateListsSpec).at F).post enc Tryz.prog Tryz.f3 false true false false) := by
  obtain ⟨places, hx⟩ := ls_reads os enc
  refine returnsInHanded_of_row (C := Tryz.checked) (s := Rows.OpenSpec.upto Rows.certificateListsSpec) own started (by kernel_rfl) Tryz.func3
    (witness_row_at (enc := enc) (C := Tryz.checked) false (lsWorld os) lsArgs rfl (by kernel_rfl) (by kernel_rfl) (by kernel_rfl)
      (OpenSpec.preRow_of_cond 8 hx (by kernel_rfl) (fun k hk => by cases hk; kernel_rfl) (by kernel_rfl) (ls_met os))) ?_
  intro W base args ds gs before hval0 hW _ hcond _ hL _ _
  have htab : TabW W := tab_of_laid hL
  have hsmall := hcond _ rfl
  have hval : ∀ (j : Nat) t v, Tryz.f3.params[j]? = some t → args[j]? = some v → Value.okWide Tryz.prog W .any base t v := hval0
  have hW' : DataW.Whole enc Tryz.prog Tryz.f3.params.toList Rows.certificateListsSpec.vars false W args.toList ds gs before := hW
  obtain ⟨p, q, hA0, hV, rfl, _, _⟩ := hW
  have hA : DataW.TrodAll enc Tryz.prog W 0 (fun _ => true) true Tryz.f3.params.toList args.toList ds p := hA0
  have hpar : Tryz.f3.params = #[30] := by kernel_rfl
  rw [hpar] at hA
  obtain ⟨v0, vs0, d0, ds0, p0, q0, hargs0, rfl, rfl, h0, r0⟩ := trodAll_cons hA
  obtain ⟨hvs, rfl, rfl⟩ := trodAll_nil r0
  obtain rfl : args = #[v0] := by
    cases args
    simp only [hvs] at hargs0
    simp_all
  obtain ⟨rfl, rfl⟩ := trodVars_none hV
  obtain ⟨x0, c0, rfl, s0, f0⟩ := open_cert (hval 0 30 v0 (by rw [hpar]; rfl) rfl) h0
  have hbd : c0.BdN 1048576 := by
    have h : Rows.uptoBulkAll ([d0] ++ ([] : List (DataW H))) ≤ 1048576 := of_decide_eq_true hsmall
    simp only [List.append_nil, Rows.uptoBulkAll] at h
    exact cert_bulk h0 (by omega) s0
  refine (lists_c W x0 c0 s0 f0 (few_ofN hbd) htab).mono fun e W' ⟨he, hk⟩ => ?_
  subst he
  exact ⟨_, rfl, law_post laidOut (by
    rw [hpar]; intro t ht
    have hall : ∀ t ∈ [30], Tryz.prog.readableRec t = true ∧ t < Tryz.prog.types.size := by
      intro t ht
      simp only [List.mem_cons, List.not_mem_nil, or_false] at ht
      rcases ht with rfl <;> exact ⟨by kernel_rfl, of_decide_eq_true (by kernel_rfl)⟩
    exact hall t (by simpa using ht)) (tb := 4) (by kernel_rfl) Tryz.underlying4 rfl hW' rfl hk⟩

theorem certificateListsUpto_said : Rows.CertificateListsUptoSaid :=
  OpenClaim.holds_of_cond 3 Tryz.f3 rfl rfl rfl rfl rfl rfl rfl ⟨rfl, rfl, rfl, rfl, rfl⟩ rfl rfl rfl rfl rfl (by kernel_rfl) Tryz.func3 (by kernel_rfl)
    (of_decide_eq_true (by kernel_rfl)) (by unfold Func.isWrapper; first | (rw [if_pos (by decide +kernel)]; kernel_rfl) | (rw [if_neg (by decide +kernel)]; exact ⟨rfl, rfl⟩))
    (fun os started H enc _ F => by rw [OpenClaim.pre_eq_preRow]; exact certificateListsUpto_lifted os started H enc F)

/-- No parameter wants a stand-in; the program's own looks are off: what the card asks. -/
theorem ls_plain (f : FuncId) (fn : Func) (hf : Tryz.pinned.checked.prog.funcNamed "refmesh/refmeshlaw36.CertificateLists" = some f) (hfn : Tryz.pinned.checked.prog.funcs[f]? = some fn) :
    false = Tryz.pinned.checked.prog.looks [] ∧ ∀ (j : Nat) t, fn.params[j]? = some t → Tryz.pinned.checked.prog.wantsStandIn t = false := by
  obtain rfl : f = 3 := Option.some.inj ((show Tryz.prog.funcNamed "refmesh/refmeshlaw36.CertificateLists" = some 3 by kernel_rfl).symm.trans hf) |>.symm
  obtain rfl : fn = Tryz.f3 := (Option.some.inj (Tryz.func3.symm.trans hfn)).symm
  refine ⟨by kernel_rfl, fun j t ht => ?_⟩
  have hpar : Tryz.f3.params = #[30] := by kernel_rfl
  rw [hpar] at ht
  obtain rfl : t = 30 := by simpa using Array.mem_of_getElem? ht
  exact (show Tryz.prog.wantsStandIn 30 = false by kernel_rfl)

theorem certificateListsUpto_holds : Rows.CertificateListsUptoCardSaid :=
  Claim7.holds_tied_plain_at .later [] _ _ _ _ certificateListsUpto_said (fun _ h => by cases h) (by kernel_rfl) (fun _ h => by cases h) certificateListsUpto_row_tie rfl ⟨rfl, rfl⟩ (by kernel_rfl) rfl ls_plain (by kernel_rfl)
#print axioms certificateListsUpto_holds
end Go.Proofs.YtiplgpefapeapaaGreatDoor
