/- What the rows of layer 9 share: the numbers of the program's types. -/
import Derived.Test.YtmdjomilicoobaaRows
import Derived.Test.YtmdjomilicoobaaUr2
namespace Go.Proofs.Ytmdjomilicoobaa
open Go Go.Lf Go.ChangeShapes Go.WideShapes Go.ChangeAt Go.RowKit
set_option maxRecDepth 100000
set_option maxHeartbeats 1000000

theorem Try.own : ownKnob Try.prog.godebug = none := by kernel_rfl
theorem Try.kids : Kids Try.prog (· < Try.prog.types.size) := kids_rows (by kernel_rfl) (by kernel_rfl)
theorem Try.full : ∀ t e, t < Try.prog.types.size → Try.prog.underlying t = some (.slice e) → 0 < Try.prog.cellsOf e := slices_full_of Try.prog (by kernel_rfl)
theorem tyIn : TyIn Try.prog 22 28 5 3 :=
  ⟨Try.underlying22, ⟨_, _, _, Try.underlying28, rfl, rfl, rfl, rfl, rfl, rfl⟩, Try.underlying5, Try.underlying3, by kernel_rfl, by kernel_rfl, by kernel_rfl, by kernel_rfl, of_decide_eq_true (by kernel_rfl)⟩

theorem ret_true {g : G} {w : World} {e : Ending} (h : RepRes g w (.ret (vB true)) e) : e = .returned (.bool true) := by
  obtain ⟨x, he, hr⟩ := h
  cases hr
  exact he

theorem reps_one {g : G} {w : World} {c0 : V} {v0 : Value} (h0 : Rep g w c0 v0) : Reps g w [c0] #[v0] :=
  ⟨rfl, fun i c v hc hv => by
    match i with
    | 0 => cases hc; cases hv; exact h0
    | i + 1 => simp at hc⟩

theorem reps_two {g : G} {w : World} {c0 c1 : V} {v0 v1 : Value} (h0 : Rep g w c0 v0) (h1 : Rep g w c1 v1) : Reps g w [c0, c1] #[v0, v1] :=
  ⟨rfl, fun i c v hc hv => by
    match i with
    | 0 => cases hc; cases hv; exact h0
    | 1 => cases hc; cases hv; exact h1
    | i + 2 => simp at hc⟩

theorem reps_three {g : G} {w : World} {c0 c1 c2 : V} {v0 v1 v2 : Value} (h0 : Rep g w c0 v0) (h1 : Rep g w c1 v1) (h2 : Rep g w c2 v2) : Reps g w [c0, c1, c2] #[v0, v1, v2] :=
  ⟨rfl, fun i c v hc hv => by
    match i with
    | 0 => cases hc; cases hv; exact h0
    | 1 => cases hc; cases hv; exact h1
    | 2 => cases hc; cases hv; exact h2
    | i + 3 => simp at hc⟩

theorem sized_at {H : Type} {P : Program} {ts : List TypeId} {ds : List (DataW H)} (h : (DataW.weightsEach P ts ds).all (· ≤ reachBytes) = true) {j : Nat} {t : TypeId} {d : DataW H} (ht : ts[j]? = some t) (hd : ds[j]? = some d) : ∀ n ∈ d.weights P t, n ≤ reachBytes := fun n hn => by
  have := List.all_eq_true.1 h n (DataW.weights_mem_each ht hd n hn)
  simpa using this
end Go.Proofs.Ytmdjomilicoobaa
