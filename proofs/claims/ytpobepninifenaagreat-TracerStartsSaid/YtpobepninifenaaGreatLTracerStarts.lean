/- TracerStarts: Start returns new identities with successive serials. The law returns true for every input. No condition. -/
import Derived.Test.YtpobepninifenaaGreatS15
set_option linter.unusedVariables false
set_option linter.unusedSimpArgs false
namespace Go.Proofs.YtpobepninifenaaGreat
open Go.ChangeShapes Go.WideShapes Go.ChangeAt Go.RowKit

set_option maxRecDepth 100000 in
theorem tracerStarts_lifted (os : Os) (started : os.Started) (H : Type) (enc : TypeId × Value → H) :
    ReturnsInHanded {} Tryz.checked os 4 .any (Rows.tracerStartsSpec.pre6 enc Tryz.prog Tryz.f4 Rows.tracerStartsRow.domain false) (Rows.tracerStartsSpec.post enc Tryz.prog Tryz.f4 false true false false) := by
  refine returnsInHanded_of_change (C := Tryz.checked) own started (by kernel_rfl) Tryz.func4
    (ChangeSpec.witness6 (enc := enc) (C := Tryz.checked) false ⟨#[], #[.int .i64 0, .slice none 0 0, .slice none 0 0], []⟩ 8 (by kernel_rfl) (by kernel_rfl) (by kernel_rfl) (by kernel_rfl)) ?_
  intro W base args ds gs before hval0 hW _ _
  have hval : ∀ (j : Nat) t v, Tryz.f4.params[j]? = some t → args[j]? = some v → Value.okWide Tryz.prog W .any base t v := hval0
  have hW' : DataW.Whole enc Tryz.prog Tryz.f4.params.toList Rows.tracerStartsSpec.vars false W args.toList ds gs before := hW
  obtain ⟨p, q, hA0, hV, rfl, _, _⟩ := hW
  have hA : DataW.TrodAll enc Tryz.prog W 0 (fun _ => true) true Tryz.f4.params.toList args.toList ds p := hA0
  have hpar : Tryz.f4.params = #[3, 22, 33] := by kernel_rfl
  rw [hpar] at hA
  obtain ⟨v0, vs0, d0, ds0, p0, q0, hargs0, rfl, rfl, h0, r0⟩ := trodAll_cons hA
  obtain ⟨v1, vs1, d1, ds1, p1, q1, hargs1, rfl, rfl, h1, r1⟩ := trodAll_cons r0
  obtain ⟨v2, vs2, d2, ds2, p2, q2, hargs2, rfl, rfl, h2, r2⟩ := trodAll_cons r1
  obtain ⟨hvs, rfl, rfl⟩ := trodAll_nil r2
  obtain rfl : args = #[v0, v1, v2] := by
    cases args
    simp only [hvs, hargs1, hargs2] at hargs0
    simp_all
  obtain ⟨rfl, rfl⟩ := trodVars_none hV
  obtain ⟨x0, rfl, rfl, rfl, w0⟩ := open_int Tryz.underlying3 (hval 0 3 v0 (by rw [hpar]; rfl) rfl) h0
  obtain ⟨l1, s1⟩ := open_ops5 (hval 1 22 v1 (by rw [hpar]; rfl) rfl) h1
  obtain ⟨l2, s2, f2⟩ := open_sms (hval 2 33 v2 (by rw [hpar]; rfl) rfl) h2
  refine (starts_w W x0 v1 l1 v2 l2 (w64_wf w0) s1 s2 f2 ).mono fun e W' ⟨he, hk⟩ => ?_
  subst he
  exact ⟨_, rfl, law_post laidOut (by
    rw [hpar]; intro t ht
    have hall : ∀ t ∈ [3, 22, 33], Tryz.prog.readableRec t = true ∧ t < Tryz.prog.types.size := by
      intro t ht
      simp only [List.mem_cons, List.not_mem_nil, or_false] at ht
      rcases ht with rfl | rfl | rfl <;> exact ⟨by kernel_rfl, of_decide_eq_true (by kernel_rfl)⟩
    exact hall t (by simpa using ht)) (tb := 4) (by kernel_rfl) Tryz.underlying4 rfl hW' rfl hk⟩

theorem tracerStarts_holds : Rows.TracerStartsSaid :=
  OpenClaim.holds_of_wide 4 Tryz.f4 rfl rfl rfl rfl rfl rfl rfl ⟨rfl, rfl, rfl, rfl, rfl⟩ rfl rfl rfl rfl rfl (by kernel_rfl) Tryz.func4 (by kernel_rfl)
    (of_decide_eq_true (by kernel_rfl)) (by unfold Func.isWrapper; first | (rw [if_pos (by decide +kernel)]; kernel_rfl) | (rw [if_neg (by decide +kernel)]; exact ⟨rfl, rfl⟩))
    (fun os started H enc _ => tracerStarts_lifted os started H enc)
#print axioms tracerStarts_holds
end Go.Proofs.YtpobepninifenaaGreat
