/- The statement of layer 9 on a nil book, walked: it is true. -/
import Derived.Test.YtmdjomilicoobaaUq2
namespace Go.Lf
open Go Go.Proofs
set_option maxRecDepth 10000
set_option maxHeartbeats 4000000

theorem fresh_nil : PCall Try.prog 10 [nilB] (Ty.mk 0 0 []).v := by
  intro σ π
  refine acalls_of [] mixed Try.func10 rfl (by kernel_rfl) (by kernel_rfl) ?_
  conv => whnf
  exact ⟨σ, π, fun _ _ h => h, fun _ _ h => h, congrArg Res.ret (rfl), rfl, rfl⟩

theorem vars_nil_s (σ : Store) (π : Toks) : SCall Try.prog 17 [nilB] σ π (vI 0) := vars_nil σ π

theorem known_zero : ∀ t : Ty, t.may = true → t.known 0 = Ty.all (fun k _ _ => k != 5) t := by
  refine Ty.ind fun k n ks ih h => ?_
  rw [Ty.may_mk, Bool.and_eq_true, List.all_eq_true] at h
  rw [Ty.known_mk, Ty.all_mk]
  have h1 := h.1
  simp [nodeMay] at h1
  have h2 : ks.all (Ty.known 0) = ks.all (Ty.all fun k _ _ => k != 5) := by
    rw [Bool.eq_iff_iff, List.all_eq_true, List.all_eq_true]
    exact ⟨fun hh t ht => by rw [← ih t ht (h.2 t ht)]; exact hh t ht, fun hh t ht => by rw [ih t ht (h.2 t ht)]; exact hh t ht⟩
  rw [h2]
  congr 1
  by_cases e : k = 5
  · subst e; simp; exact h1.1.2
  · have e' : (k == 5) = false := by simpa using e
    simp [bne, e']

theorem nil_calls (t : Ty) (ht : t.Ok) : PCall Try.prog 5 [t.v] (vB true) := by
  intro σ π
  obtain ⟨k, w, ks⟩ := t
  generalize ht' : Ty.mk k w ks = t
  have hok : t.Ok := by rw [← ht']; exact ht
  have hgr := great_calls [t] (by simpa using hok)
  have hmay := may_calls t hok
  have hhas := has_calls 5 t hok
  have hJ := Join_nil σ π [t, t] (by simpa using hok) (by simp)
  have hJ2 : ((([t, t] : List Ty).all Ty.may && [t, t].all (Ty.known 0)) && [t, t].all (sameHead [t, t])) = (t.may && t.known 0) := by
    simp [sameHead, Ty.same_refl]
  rw [hJ2] at hJ
  have hS := Sense_calls (f := fun t => t) (σ := σ) (nB := 0) π (fun π => vars_nil σ π) t hok (fun hk left h0 h1 π => by rw [Bool.and_eq_true] at hk; exact sense_nil t hok hk.1 hk.2 σ left h0 h1 π) (most := 60) (by omega) (by omega)
  have hsame := same_calls t t hok
  rw [Ty.same_refl] at hsame
  have hz := same_calls (.mk 0 0 []) (.mk 0 0 []) Ok.zero
  rw [Ty.same_refl] at hz
  have hkz := known_zero t
  cases e0 : (decide (([t] : List Ty).length > 10) || [t].any tooGreat)
  · rw [e0] at hgr
    have hsz : (t.size : Int) ≤ 60 := by simp [tooGreat] at e0; omega
    unfold senseR at hS
    rw [decide_eq_true hsz] at hS
    cases e1 : t.may
    · rw [e1] at hmay hJ hS
      subst ht'
      refine acalls_of [] mixed Try.func5 rfl (by kernel_rfl) (by kernel_rfl) ?_
      conv => whnf
      refine hgr.use ?_
      conv => whnf
      refine hmay.use ?_
      conv => whnf
      refine hS.use ?_
      conv => whnf
      refine fresh_nil.use ?_
      conv => whnf
      refine hz.use ?_
      conv => whnf
      refine vars_nil.use ?_
      conv => whnf
      refine hJ.use ?_
      conv => whnf
      refine awake_calls.use ?_
      conv => whnf
      exact ⟨σ, π, fun _ _ h => h, fun _ _ h => h, congrArg Res.ret (rfl), rfl, rfl⟩
    · rw [e1] at hmay hJ hS
      rw [hkz e1] at hJ hS
      cases e2 : Ty.all (fun k _ _ => k != 5) t
      all_goals
        rw [e2] at hhas hJ hS
        subst ht'
        refine acalls_of [] mixed Try.func5 rfl (by kernel_rfl) (by kernel_rfl) ?_
        conv => whnf
        refine hgr.use ?_
        conv => whnf
        refine hmay.use ?_
        conv => whnf
        refine hhas.use ?_
        conv => whnf
        refine hS.use ?_
        conv => whnf
        refine fresh_nil.use ?_
        conv => whnf
        refine hz.use ?_
        conv => whnf
        refine vars_nil.use ?_
        conv => whnf
        refine hJ.use ?_
        conv => whnf
        first
        | (refine awake_calls.use ?_
           conv => whnf
           exact ⟨σ, π, fun _ _ h => h, fun _ _ h => h, rfl, rfl, rfl⟩)
        | (refine hsame.use ?_
           conv => whnf
           refine awake_calls.use ?_
           conv => whnf
           exact ⟨σ, π, fun _ _ h => h, fun _ _ h => h, rfl, rfl, rfl⟩)
  · rw [e0] at hgr
    subst ht'
    refine acalls_of [] mixed Try.func5 rfl (by kernel_rfl) (by kernel_rfl) ?_
    conv => whnf
    refine hgr.use ?_
    conv => whnf
    refine awake_calls.use ?_
    conv => whnf
    exact ⟨σ, π, fun _ _ h => h, fun _ _ h => h, congrArg Res.ret (rfl), rfl, rfl⟩
end Go.Lf
