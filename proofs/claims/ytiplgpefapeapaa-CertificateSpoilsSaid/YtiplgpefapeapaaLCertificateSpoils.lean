/- The law CertificateSpoils. The law returns true for every input. No condition. -/
import Derived.Test.YtiplgpefapeapaaKC16
set_option linter.unusedVariables false
set_option linter.unusedSimpArgs false
namespace Go.Proofs.Ytiplgpefapeapaa
open Go.ChangeShapes Go.WideShapes Go.ChangeAt Go.RowKit

set_option maxRecDepth 100000 in
theorem certificateSpoils_lifted (os : Os) (started : os.Started) (H : Type) (enc : TypeId × Value → H) :
    ReturnsInHanded {} Try.checked os 5 .any (Rows.certificateSpoilsSpec.pre6 enc Try.prog Try.f5 Rows.certificateSpoilsRow.domain false) (Rows.certificateSpoilsSpec.post enc Try.prog Try.f5 false true false false) := by
  refine returnsInHanded_of_change (C := Try.checked) own started (by kernel_rfl) Try.func5
    (ChangeSpec.witness6 (enc := enc) (C := Try.checked) false ⟨#[], #[.agg #[.int .i64 0, .int .i64 0, .int .i64 0, .int .u64 0, .int .i64 0, .slice none 0 0, .slice none 0 0], .int .u8 0, .int .u8 0], []⟩ 8 (by kernel_rfl) (by kernel_rfl) (by kernel_rfl) (by kernel_rfl)) ?_
  intro W base args ds gs before hval0 hW _ _
  have hval : ∀ (j : Nat) t v, Try.f5.params[j]? = some t → args[j]? = some v → Value.okWide Try.prog W .any base t v := hval0
  have hW' : DataW.Whole enc Try.prog Try.f5.params.toList Rows.certificateSpoilsSpec.vars false W args.toList ds gs before := hW
  obtain ⟨p, q, hA0, hV, rfl, _, _⟩ := hW
  have hA : DataW.TrodAll enc Try.prog W 0 (fun _ => true) true Try.f5.params.toList args.toList ds p := hA0
  have hpar : Try.f5.params = #[30, 5, 5] := by kernel_rfl
  rw [hpar] at hA
  obtain ⟨v0, vs0, d0, ds0, p0, q0, hargs0, rfl, rfl, h0, r0⟩ := trodAll_cons hA
  obtain ⟨v1, vs1, d1, ds1, p1, q1, hargs1, rfl, rfl, h1, r1⟩ := trodAll_cons r0
  obtain ⟨v2, vs2, d2, ds2, p2, q2, hargs2, rfl, rfl, h2, r2⟩ := trodAll_cons r1
  obtain ⟨hvs, rfl, rfl⟩ := trodAll_nil r2
  obtain rfl : args = #[v0, v1, v2] := by
    cases args
    simp only [hvs, hargs1, hargs2] at hargs0
    simp_all
  obtain ⟨rfl, rfl⟩ := trodVars_none hV
  obtain ⟨x0, c0, rfl, s0, f0⟩ := open_cert (hval 0 30 v0 (by rw [hpar]; rfl) rfl) h0
  obtain ⟨x1, rfl, rfl, rfl, w1⟩ := open_int Try.underlying5 (hval 1 5 v1 (by rw [hpar]; rfl) rfl) h1
  obtain ⟨n1, rfl, m1⟩ := u8_nat w1
  obtain ⟨x2, rfl, rfl, rfl, w2⟩ := open_int Try.underlying5 (hval 2 5 v2 (by rw [hpar]; rfl) rfl) h2
  obtain ⟨n2, rfl, m2⟩ := u8_nat w2
  refine (spoils_c W x0 c0 n1 n2 s0 f0 m1 m2 ).mono fun e W' ⟨he, hk⟩ => ?_
  subst he
  exact ⟨_, rfl, law_post laidOut (by
    rw [hpar]; intro t ht
    have hall : ∀ t ∈ [30, 5, 5], Try.prog.readableRec t = true ∧ t < Try.prog.types.size := by
      intro t ht
      simp only [List.mem_cons, List.not_mem_nil, or_false] at ht
      rcases ht with rfl | rfl | rfl <;> exact ⟨by kernel_rfl, of_decide_eq_true (by kernel_rfl)⟩
    exact hall t (by simpa using ht)) (tb := 4) (by kernel_rfl) Try.underlying4 rfl hW' rfl hk⟩

theorem certificateSpoils_holds : Rows.CertificateSpoilsSaid :=
  OpenClaim.holds_of_wide 5 Try.f5 rfl rfl rfl rfl rfl rfl rfl ⟨rfl, rfl, rfl, rfl, rfl⟩ rfl rfl rfl rfl rfl (by kernel_rfl) Try.func5 (by kernel_rfl)
    (of_decide_eq_true (by kernel_rfl)) (by unfold Func.isWrapper; first | (rw [if_pos (by decide +kernel)]; kernel_rfl) | (rw [if_neg (by decide +kernel)]; exact ⟨rfl, rfl⟩))
    (fun os started H enc _ => certificateSpoils_lifted os started H enc)
#print axioms certificateSpoils_holds
end Go.Proofs.Ytiplgpefapeapaa
