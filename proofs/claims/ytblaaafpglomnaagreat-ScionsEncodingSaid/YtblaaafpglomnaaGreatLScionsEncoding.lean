/- Encode agrees with the reference, and a decoded table has the same entries with the same handles. The law returns true for every input. No condition. -/
import Derived.Test.YtblaaafpglomnaaGreatK9
set_option linter.unusedVariables false
set_option linter.unusedSimpArgs false
namespace Go.Proofs.YtblaaafpglomnaaGreat
open Go.ChangeShapes Go.WideShapes Go.ChangeAt Go.RowKit

set_option maxRecDepth 100000 in
theorem scionsEncoding_lifted (os : Os) (started : os.Started) (H : Type) (enc : TypeId × Value → H) :
    ReturnsInHanded {} Tryz.checked os 4 .any (Rows.scionsEncodingSpec.pre6 enc Tryz.prog Tryz.f4 Rows.scionsEncodingRow.domain false) (Rows.scionsEncodingSpec.post enc Tryz.prog Tryz.f4 false true false false) := by
  refine returnsInHanded_of_change (C := Tryz.checked) own started (by kernel_rfl) Tryz.func4
    (ChangeSpec.witness6 (enc := enc) (C := Tryz.checked) false ⟨#[], #[.slice none 0 0], []⟩ 8 (by kernel_rfl) (by kernel_rfl) (by kernel_rfl) (by kernel_rfl)) ?_
  intro W base args ds gs before hval0 hW _ _
  have hval : ∀ (j : Nat) t v, Tryz.f4.params[j]? = some t → args[j]? = some v → Value.okWide Tryz.prog W .any base t v := hval0
  have hW' : DataW.Whole enc Tryz.prog Tryz.f4.params.toList Rows.scionsEncodingSpec.vars false W args.toList ds gs before := hW
  obtain ⟨p, q, hA0, hV, rfl, _, _⟩ := hW
  have hA : DataW.TrodAll enc Tryz.prog W 0 (fun _ => true) true Tryz.f4.params.toList args.toList ds p := hA0
  have hpar : Tryz.f4.params = #[39] := by kernel_rfl
  rw [hpar] at hA
  obtain ⟨v0, vs0, d0, ds0, p0, q0, hargs0, rfl, rfl, h0, r0⟩ := trodAll_cons hA
  obtain ⟨hvs, rfl, rfl⟩ := trodAll_nil r0
  obtain rfl : args = #[v0] := by
    cases args
    simp only [hvs] at hargs0
    simp_all
  obtain ⟨rfl, rfl⟩ := trodVars_none hV
  obtain ⟨l0, s0, m0⟩ := open_ops (hval 0 39 v0 (by rw [hpar]; rfl) rfl) h0
  refine (encoding_c W v0 l0 s0 m0 ).mono fun e W' ⟨he, hk⟩ => ?_
  subst he
  exact ⟨_, rfl, law_post laidOut (by
    rw [hpar]; intro t ht
    have hall : ∀ t ∈ [39], Tryz.prog.readableRec t = true ∧ t < Tryz.prog.types.size := by
      intro t ht
      simp only [List.mem_cons, List.not_mem_nil, or_false] at ht
      rcases ht with rfl <;> exact ⟨by kernel_rfl, of_decide_eq_true (by kernel_rfl)⟩
    exact hall t (by simpa using ht)) (tb := 4) (by kernel_rfl) Tryz.underlying4 rfl hW' rfl hk⟩

theorem scionsEncoding_holds : Rows.ScionsEncodingSaid :=
  OpenClaim.holds_of_wide 4 Tryz.f4 rfl rfl rfl rfl rfl rfl rfl ⟨rfl, rfl, rfl, rfl, rfl⟩ rfl rfl rfl rfl rfl (by kernel_rfl) Tryz.func4 (by kernel_rfl)
    (of_decide_eq_true (by kernel_rfl)) (by unfold Func.isWrapper; first | (rw [if_pos (by decide +kernel)]; kernel_rfl) | (rw [if_neg (by decide +kernel)]; exact ⟨rfl, rfl⟩))
    (fun os started H enc _ => scionsEncoding_lifted os started H enc)
#print axioms scionsEncoding_holds
end Go.Proofs.YtblaaafpglomnaaGreat
