/- UnifyAgain: for all numbers and every row of types the call returns true, and leaves all that it was handed as it was. -/
import Derived.Test.YtmdjomilicoobaaUr3
import Derived.Test.YtmdjomilicoobaaUq5
namespace Go.Proofs.Ytmdjomilicoobaa
open Go Go.Lf Go.ChangeShapes Go.WideShapes Go.ChangeAt Go.RowKit
set_option maxRecDepth 100000
set_option maxHeartbeats 1000000

theorem again_lifted (os : Os) (started : os.Started) (H : Type) (enc : TypeId × Value → H) :
    ReturnsInHanded {} Try.checked os 6 .any (Rows.unifyAgainSpec.pre6 enc Try.prog Try.f6 Rows.unifyAgainRow.domain false) (Rows.unifyAgainSpec.post enc Try.prog Try.f6 false true false false) := by
  refine returnsInHanded_of_change_sized (C := Try.checked) Try.own started (by kernel_rfl) Try.func6
    (ChangeSpec.witness6 (enc := enc) (C := Try.checked) false ⟨#[], #[.int .u8 0, .slice none 0 0, .int .u8 0], []⟩ 8 (by kernel_rfl) (by kernel_rfl) (by kernel_rfl) (by kernel_rfl)) ?_
  intro W base args ds gs before hval0 hW hcnd hsz0 _
  have hval : ∀ (j : Nat) t v, Try.f6.params[j]? = some t → args[j]? = some v → Value.okWide Try.prog W .any base t v := hval0
  have hsz : (DataW.weightsEach Try.prog (Try.f6.params.toList ++ Rows.unifyAgainSpec.plain.varTypes Try.prog) (ds ++ gs)).all (· ≤ reachBytes) = true := hsz0
  clear hval0 hsz0
  have hW' := hW
  obtain ⟨p, q, hA0, hV, rfl, hfz, hnd⟩ := hW
  have hA : DataW.TrodAll enc Try.prog W 0 (fun _ => true) true Try.f6.params.toList args.toList ds p := hA0
  clear hA0
  rw [Try.params6] at hA hval hsz
  obtain ⟨v0, v1, v2, d0, d1, d2, p0, p1, p2, rfl, rfl, rfl, h0, h1, h2'⟩ := trodAll_three hA
  obtain ⟨rfl, rfl⟩ := trodVars_none hV
  obtain ⟨n, rfl, rfl, rfl, wn⟩ := open_int Try.underlying5 (hval 0 5 v0 rfl rfl) h0
  obtain ⟨ts, _, hts, hr⟩ := read_row tyIn (hval 1 22 v1 rfl rfl) h1 (sized_at hsz (j := 1) (t := 22) (d := d1) rfl rfl)
  obtain ⟨k, rfl, rfl, rfl, wk⟩ := open_int Try.underlying5 (hval 2 5 v2 rfl rfl) h2'
  have hn := wf_u8 wn
  have hk := wf_u8 wk
  refine ((again_calls n k hn.1 hn.2 hk.1 hk.2 ts hts _ _).2 (g0 W) W _ (g0_inv W) (reps_three (.raw _) hr (.raw _))).mono fun e W' ⟨g', r, σ', π', ⟨h2, _, _⟩, h3, _, h4⟩ => ?_
  subst h2
  exact ⟨_, ret_true h4, law_post (tb := 4) Try.kids Try.full (by rw [Try.params6]; decide) rfl rfl Try.underlying4 hW' rfl h3⟩

theorem again_holds : Rows.UnifyAgainSaid :=
  OpenClaim.holds_of_wide 6 Try.f6 rfl rfl rfl rfl rfl rfl rfl ⟨rfl, rfl, rfl, rfl, rfl⟩ rfl rfl rfl rfl rfl (by kernel_rfl) Try.func6 (by kernel_rfl)
    (of_decide_eq_true (by kernel_rfl)) (by unfold Func.isWrapper; first | (rw [if_pos (by decide +kernel)]; kernel_rfl) | (rw [if_neg (by decide +kernel)]; exact ⟨rfl, rfl⟩))
    (fun os started H enc _ => again_lifted os started H enc)

#print axioms again_holds
end Go.Proofs.Ytmdjomilicoobaa
