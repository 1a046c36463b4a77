/- The types' package, walked. -/
import Derived.Test.YtmdjomilicoobaaUn3
namespace Go.Lf
open Go Go.Proofs
set_option maxRecDepth 10000
set_option maxHeartbeats 1000000

theorem upd_keep {σ : Store} {l : Nat} {x : Option Obj} (h : σ l = none) : ∀ l' o, σ l' = some o → upd σ l x l' = some o := fun l' o h' => by
  rw [upd_ne _ _ (fun e => by subst e; rw [h] at h'; cases h')]; exact h'

theorem kids_calls (k : Int) (h0 : 0 ≤ k) (h1 : k ≤ 255) : PCall Try.prog 41 [vU8 k] (vI (kidsN k)) := by
  intro σ π
  rcases (by omega : k = 0 ∨ k = 1 ∨ k = 2 ∨ k = 3 ∨ k = 4 ∨ k = 5 ∨ 6 ≤ k) with rfl | rfl | rfl | rfl | rfl | rfl | h
  · refine acalls_of [] mixed Try.func41 rfl (by kernel_rfl) (by kernel_rfl) ?_
    conv => whnf
    exact ⟨σ, π, fun _ _ h => h, fun _ _ h => h, congrArg Res.ret (rfl), rfl, rfl⟩
  · refine acalls_of [] mixed Try.func41 rfl (by kernel_rfl) (by kernel_rfl) ?_
    conv => whnf
    exact ⟨σ, π, fun _ _ h => h, fun _ _ h => h, congrArg Res.ret (rfl), rfl, rfl⟩
  · refine acalls_of [] mixed Try.func41 rfl (by kernel_rfl) (by kernel_rfl) ?_
    conv => whnf
    exact ⟨σ, π, fun _ _ h => h, fun _ _ h => h, congrArg Res.ret (rfl), rfl, rfl⟩
  · refine acalls_of [] mixed Try.func41 rfl (by kernel_rfl) (by kernel_rfl) ?_
    conv => whnf
    exact ⟨σ, π, fun _ _ h => h, fun _ _ h => h, congrArg Res.ret (rfl), rfl, rfl⟩
  · refine acalls_of [] mixed Try.func41 rfl (by kernel_rfl) (by kernel_rfl) ?_
    conv => whnf
    exact ⟨σ, π, fun _ _ h => h, fun _ _ h => h, congrArg Res.ret (rfl), rfl, rfl⟩
  · refine acalls_of [] mixed Try.func41 rfl (by kernel_rfl) (by kernel_rfl) ?_
    conv => whnf
    exact ⟨σ, π, fun _ _ h => h, fun _ _ h => h, congrArg Res.ret (rfl), rfl, rfl⟩
  · refine acalls_of [] mixed Try.func41 rfl (by kernel_rfl) (by kernel_rfl) ?_
    conv => whnf
    rw [show IntKind.i64.wrap k = k from wrap_in (by omega) (by omega)]
    cases h2 : decide (k ≥ 6)
    · simp at h2; omega
    · conv => whnf
      refine ⟨σ, π, fun _ _ h => h, fun _ _ h => h, congrArg Res.ret ?_, rfl, rfl⟩
      · have : kidsN k = -1 := by unfold kidsN; rw [if_neg (by omega), if_neg (by omega), if_neg (by omega)]
        rw [this]

theorem node_calls (k n : Int) (ks : List Ty) (h0 : 0 ≤ k) (h1 : k ≤ 255) : PCall Try.prog 35 [Ty.v (.mk k n ks)] (vB (nodeMay k n ks.length)) := by
  intro σ π
  refine acalls_of [] mixed Try.func35 rfl (by kernel_rfl) (by kernel_rfl) ?_
  conv => whnf
  refine (kids_calls k h0 h1).use ?_
  conv => whnf
  refine ⟨trivial, ?_⟩
  conv => whnf
  rw [Ty.vs_length]
  cases h2 : (kidsN k == (ks.length : Int))
  · conv => whnf
    refine ⟨σ, π, fun _ _ h => h, fun _ _ h => h, congrArg Res.ret ?_, rfl, rfl⟩
    · simp at h2; simp [nodeMay]; omega
  · conv => whnf
    cases h3 : decide (n ≥ 0)
    · conv => whnf
      refine ⟨σ, π, fun _ _ h => h, fun _ _ h => h, congrArg Res.ret ?_, rfl, rfl⟩
      · simp at h3; simp [nodeMay]; omega
    · conv => whnf
      cases h4 : (n == 0)
      · conv => whnf
        cases h5 : (k == 5)
        · conv => whnf
          refine ⟨σ, π, fun _ _ h => h, fun _ _ h => h, congrArg Res.ret ?_, rfl, rfl⟩
          · simp at *; simp [nodeMay, *]; omega
        · conv => whnf
          refine ⟨σ, π, fun _ _ h => h, fun _ _ h => h, congrArg Res.ret ?_, rfl, rfl⟩
          · simp at h2 h3 h5; subst h5; simp [nodeMay, h2, h3]
      · conv => whnf
        refine ⟨σ, π, fun _ _ h => h, fun _ _ h => h, congrArg Res.ret ?_, rfl, rfl⟩
        · simp at *; simp [nodeMay, *]

/-- The function node as a value. -/
abbrev nodeV : V := .fn (.func 35) [] []

theorem index_calls (fid : FuncId) (caps : List V) (ks : List Ty) (hl : ks.length ≤ 2 ^ 47) (q : Ty → Bool) (σ : Store) (π : Toks) (h : ∀ t ∈ ks, SCall Try.prog fid (t.v :: caps) σ π (vB (q t))) :
    ACalls Try.prog 42 [.sl (Ty.vs ks), .fn (.func fid) [] caps] σ π fun x σ' π' => (∃ r : Int, x = .ret (vI r) ∧ decide (r ≥ 0) = ks.any q) ∧ σ' = σ ∧ π' = π := by
  refine acalls_of [] mixed Try.func42 rfl (by kernel_rfl) (by kernel_rfl) ?_
  conv => whnf
  refine ⟨Upto ks (fun t => !q t), fun i => { T := tOf [(0, tV (.sl (Ty.vs ks))), (1, tV (.fn (.func fid) [] caps)), (7, tV (vI (Ty.vs ks).length)), (8, tV (vI i.1))], L := lOf [], σ := σ, π := π }, fun i => ks.length - i.1, ⟨.zero _ _, ?_⟩, fun i => ?_⟩
  · exact le_of ⟨.rfl, .rfl, .rfl, .rfl, trivial⟩ trivial rfl (fun _ _ h => h) (fun _ _ h => h)
  · conv => whnf
    rw [Ty.vs_length]
    cases h5 : decide ((i.1 : Int) < (ks.length : Int))
    · conv => whnf
      simp at h5
      refine ⟨σ, π, fun _ _ h => h, fun _ _ h => h, ⟨-1, rfl, ?_⟩, rfl, rfl⟩
      have := i.done (by omega)
      simp at this ⊢
      simpa using this
    · simp at h5
      obtain ⟨tk, tn, us, ht⟩ := Ty.at h5
      have hm := List.mem_of_getElem? ht
      conv => whnf
      refine ⟨Ty.v (.mk tk tn us), ⟨by omega, Ty.vs_get ht, rfl⟩, ?_⟩
      conv => whnf
      refine (h _ hm).use ?_
      conv => whnf
      cases h6 : q (.mk tk tn us)
      · conv => whnf
        exact ⟨i.succ ht (by simp [h6]), le_of ⟨.rfl, .rfl, .rfl, .succ h5 hl, trivial⟩ trivial rfl (fun _ _ h => h) (fun _ _ h => h), by show ks.length - (i.1 + 1) < ks.length - i.1; omega⟩
      · conv => whnf
        refine ⟨σ, π, fun _ _ h => h, fun _ _ h => h, ⟨i.1, rfl, ?_⟩, rfl, rfl⟩
        rw [List.any_eq_true.2 ⟨_, hm, h6⟩]
        simp

theorem contains_calls (fid : FuncId) (caps : List V) (ks : List Ty) (hl : ks.length ≤ 2 ^ 47) (q : Ty → Bool) (σ : Store) (π : Toks) (h : ∀ t ∈ ks, SCall Try.prog fid (t.v :: caps) σ π (vB (q t))) :
    SCall Try.prog 39 [.sl (Ty.vs ks), .fn (.func fid) [] caps] σ π (vB (ks.any q)) := by
  refine acalls_of [] mixed Try.func39 rfl (by kernel_rfl) (by kernel_rfl) ?_
  conv => whnf
  refine (index_calls fid caps ks hl q σ π h).mono fun x σ' π' ⟨⟨r, h1, h2⟩, h3, h4⟩ => ?_
  subst h1; subst h3; subst h4
  conv => whnf
  exact ⟨σ', π', fun _ _ h => h, fun _ _ h => h, congrArg Res.ret (congrArg vB h2), rfl, rfl⟩

/-- all$1 of a type, all of a row. -/
theorem all_calls (ks : List Ty) (hl : ks.length ≤ 2 ^ 47) (h : ∀ t ∈ ks, ∀ σ π l, σ l = some (.var [(nodeV, .no)]) → SCall Try.prog 40 [t.v, .ref l 0] σ π (vB (!t.may))) :
    PCall Try.prog 34 [nodeV, .sl (Ty.vs ks)] (vB (ks.all Ty.may)) := by
  intro σ π
  refine acalls_of [2] mixed Try.func34 rfl (by kernel_rfl) (by kernel_rfl) ?_
  conv => whnf
  intro l hl0
  conv => whnf
  have key := contains_calls 40 [.ref l 0] ks hl (fun t => !t.may) (upd σ l (some (.var [(nodeV, .no)]))) π fun t ht => h t ht _ _ _ (upd_same _ _ _)
  refine key.use ?_
  conv => whnf
  refine ⟨σ, π, upd_keep hl0, fun _ _ h => h, congrArg Res.ret (congrArg vB ?_), rfl, rfl⟩
  show (!ks.any fun t => !t.may) = _
  rw [Bool.eq_iff_iff]; simp

theorem all1_calls : ∀ t : Ty, t.Ok → ∀ σ π l, σ l = some (.var [(nodeV, .no)]) → SCall Try.prog 40 [t.v, .ref l 0] σ π (vB (!t.may)) := by
  refine Ty.ind fun k n ks ih ht σ π l hl => ?_
  cases ht with
  | mk hk hn hlen hall =>
  rw [Ty.may_mk]
  refine acalls_of [] mixed Try.func40 rfl (by kernel_rfl) (by kernel_rfl) ?_
  conv => whnf
  refine ⟨_, hl, _, rfl, ?_⟩
  conv => whnf
  refine (node_calls k n ks hk.1 hk.2).use ?_
  conv => whnf
  cases h1 : nodeMay k n ks.length
  · conv => whnf
    exact ⟨σ, π, fun _ _ h => h, fun _ _ h => h, congrArg Res.ret (rfl), rfl, rfl⟩
  · conv => whnf
    refine ⟨_, hl, _, rfl, ?_⟩
    conv => whnf
    refine (all_calls ks hlen fun t h => ih t h (hall t h)).use ?_
    conv => whnf
    exact ⟨σ, π, fun _ _ h => h, fun _ _ h => h, congrArg Res.ret (rfl), rfl, rfl⟩

theorem tmay_calls (t : Ty) (ht : t.Ok) : PCall Try.prog 26 [t.v] (vB t.may) := by
  intro σ π
  obtain ⟨k, n, ks⟩ := t
  refine acalls_of [] mixed Try.func26 rfl (by kernel_rfl) (by kernel_rfl) ?_
  conv => whnf
  refine (all_calls [.mk k n ks] (by simp) fun t h => all1_calls t (by simp at h; rw [h]; exact ht)).use ?_
  conv => whnf
  refine ⟨σ, π, fun _ _ h => h, fun _ _ h => h, congrArg Res.ret ?_, rfl, rfl⟩
  · simp
end Go.Lf
