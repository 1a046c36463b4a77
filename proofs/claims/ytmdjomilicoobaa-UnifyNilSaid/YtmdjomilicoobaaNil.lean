/- UnifyNil: for every type the call returns true, and leaves all that it was handed as it was. -/
import Derived.Test.YtmdjomilicoobaaUr3
import Derived.Test.YtmdjomilicoobaaUq4
namespace Go.Proofs.Ytmdjomilicoobaa
open Go Go.Lf Go.ChangeShapes Go.WideShapes Go.ChangeAt Go.RowKit
set_option maxRecDepth 100000
set_option maxHeartbeats 1000000

theorem nil_lifted (os : Os) (started : os.Started) (H : Type) (enc : TypeId × Value → H) :
    ReturnsInHanded {} Try.checked os 5 .any (Rows.unifyNilSpec.pre6 enc Try.prog Try.f5 Rows.unifyNilRow.domain false) (Rows.unifyNilSpec.post enc Try.prog Try.f5 false true false false) := by
  refine returnsInHanded_of_change_sized (C := Try.checked) Try.own started (by kernel_rfl) Try.func5
    (ChangeSpec.witness6 (enc := enc) (C := Try.checked) false ⟨#[], #[.agg #[.int .u8 0, .int .i64 0, .slice none 0 0]], []⟩ 8 (by kernel_rfl) (by kernel_rfl) (by kernel_rfl) (by kernel_rfl)) ?_
  intro W base args ds gs before hval0 hW hcnd hsz0 _
  have hval : ∀ (j : Nat) t v, Try.f5.params[j]? = some t → args[j]? = some v → Value.okWide Try.prog W .any base t v := hval0
  have hsz : (DataW.weightsEach Try.prog (Try.f5.params.toList ++ Rows.unifyNilSpec.plain.varTypes Try.prog) (ds ++ gs)).all (· ≤ reachBytes) = true := hsz0
  clear hval0 hsz0
  have hW' := hW
  obtain ⟨p, q, hA0, hV, rfl, hfz, hnd⟩ := hW
  have hA : DataW.TrodAll enc Try.prog W 0 (fun _ => true) true Try.f5.params.toList args.toList ds p := hA0
  clear hA0
  rw [Try.params5] at hA hval hsz
  obtain ⟨v0, d0, rfl, rfl, h0⟩ := trodAll_one hA
  obtain ⟨rfl, rfl⟩ := trodVars_none hV
  obtain ⟨t, ht, hr⟩ := read_one tyIn (hval 0 28 v0 rfl rfl) h0 (sized_at hsz (j := 0) (t := 28) (d := d0) rfl rfl)
  refine ((nil_calls t ht _ _).2 (g0 W) W _ (g0_inv W) (reps_one hr)).mono fun e W' ⟨g', r, σ', π', ⟨h2, _, _⟩, h3, _, h4⟩ => ?_
  subst h2
  exact ⟨_, ret_true h4, law_post (tb := 4) Try.kids Try.full (by rw [Try.params5]; decide) rfl rfl Try.underlying4 hW' rfl h3⟩

theorem nil_holds : Rows.UnifyNilSaid :=
  OpenClaim.holds_of_wide 5 Try.f5 rfl rfl rfl rfl rfl rfl rfl ⟨rfl, rfl, rfl, rfl, rfl⟩ rfl rfl rfl rfl rfl (by kernel_rfl) Try.func5 (by kernel_rfl)
    (of_decide_eq_true (by kernel_rfl)) (by unfold Func.isWrapper; first | (rw [if_pos (by decide +kernel)]; kernel_rfl) | (rw [if_neg (by decide +kernel)]; exact ⟨rfl, rfl⟩))
    (fun os started H enc _ => nil_lifted os started H enc)

#print axioms nil_holds
end Go.Proofs.Ytmdjomilicoobaa
