/- The book: what it knows. -/
import Derived.Test.YtmdjomilicoobaaUn4
namespace Go.Lf
open Go Go.Proofs
set_option maxRecDepth 10000
set_option maxHeartbeats 1000000

theorem law_v (n : Int) : PCall Try.prog 13 [vI n] (Ty.v (.mk 5 n [])) := by
  intro σ π
  refine acalls_of [] mixed Try.func13 rfl (by kernel_rfl) (by kernel_rfl) ?_
  conv => whnf
  exact ⟨σ, π, fun _ _ h => h, fun _ _ h => h, congrArg Res.ret (rfl), rfl, rfl⟩

theorem equal_calls (ks ks' : List Ty) (hl : ks.length ≤ 2 ^ 47) (h : ∀ t ∈ ks, ∀ u ∈ ks', PCall Try.prog 28 [t.v, u.v] (vB (Ty.same t u))) :
    PCall Try.prog 36 [.sl (Ty.vs ks), .sl (Ty.vs ks'), .fn (.func 28) [] []] (vB (Ty.sames ks ks')) := by
  intro σ π
  refine acalls_of [] mixed Try.func36 rfl (by kernel_rfl) (by kernel_rfl) ?_
  conv => whnf
  cases h3 : (((Ty.vs ks).length : Int) != ((Ty.vs ks').length : Int))
  · have hll : ks.length = ks'.length := by simp [Ty.vs_length] at h3; omega
    conv => whnf
    refine ⟨{ i : Nat // i ≤ ks.length ∧ ∀ (j : Nat) (t u : Ty), j < i → ks[j]? = some t → ks'[j]? = some u → Ty.same t u = true }, fun i => { T := tOf [(1, tV (.sl (Ty.vs ks'))), (2, tV (.fn (.func 28) [] [])), (15, tV (.sl (Ty.vs ks))), (16, tV (vI (Ty.vs ks).length)), (17, tV (vI i.1))], L := lOf [], σ := σ, π := π }, fun i => ks.length - i.1, ⟨⟨0, Nat.zero_le _, fun j t u h => by omega⟩, ?_⟩, ?_⟩
    · exact le_of ⟨.rfl, .rfl, .rfl, .rfl, .rfl, trivial⟩ trivial rfl (fun _ _ h => h) (fun _ _ h => h)
    · rintro ⟨i, hi, hall⟩
      conv => whnf
      rw [Ty.vs_length]
      cases h4 : decide ((i : Int) < (ks.length : Int))
      · conv => whnf
        refine ⟨σ, π, fun _ _ h => h, fun _ _ h => h, congrArg Res.ret ?_, rfl, rfl⟩
        · simp at h4
          rw [Ty.sames_at ks ks' hll (fun j t u h5 h6 => hall j t u (by have := (List.getElem?_eq_some_iff.1 h5).1; omega) h5 h6)]
      · simp at h4
        obtain ⟨tk, tn, ts, ht⟩ := Ty.at h4
        obtain ⟨uk, un, us, hu⟩ := Ty.at (ks := ks') (i := i) (by omega)
        conv => whnf
        refine ⟨Ty.v (.mk tk tn ts), ⟨by omega, Ty.vs_get ht, rfl⟩, ?_⟩
        conv => whnf
        refine ⟨Ty.v (.mk uk un us), ⟨by omega, Ty.vs_get hu, rfl⟩, ?_⟩
        conv => whnf
        refine (h (.mk tk tn ts) (List.mem_of_getElem? ht) (.mk uk un us) (List.mem_of_getElem? hu)).use ?_
        conv => whnf
        cases h5 : Ty.same (.mk tk tn ts) (.mk uk un us)
        · conv => whnf
          refine ⟨σ, π, fun _ _ h => h, fun _ _ h => h, congrArg Res.ret ?_, rfl, rfl⟩
          · cases h6 : Ty.sames ks ks' with
            | false => rfl
            | true => rw [(Ty.sames_of h6).2 i _ _ ht hu] at h5; cases h5
        · conv => whnf
          refine ⟨⟨i + 1, h4, fun j t u hj ha hb => ?_⟩, le_of ⟨.rfl, .rfl, .rfl, .rfl, .succ h4 hl, trivial⟩ trivial rfl (fun _ _ h => h) (fun _ _ h => h), by show ks.length - (i + 1) < ks.length - i; omega⟩
          by_cases e : j = i
          · subst e; rw [ht] at ha; rw [hu] at hb; cases ha; cases hb; exact h5
          · exact hall j t u (by omega) ha hb
  · conv => whnf
    refine ⟨σ, π, fun _ _ h => h, fun _ _ h => h, congrArg Res.ret ?_, rfl, rfl⟩
    · cases h6 : Ty.sames ks ks' with
      | false => rfl
      | true => have := (Ty.sames_of h6).1; simp [Ty.vs_length, this] at h3

theorem tsame_calls : ∀ t u : Ty, t.Ok → PCall Try.prog 28 [t.v, u.v] (vB (Ty.same t u)) := by
  refine Ty.ind fun k n ks ih u ht => ?_
  obtain ⟨k', n', ks'⟩ := u
  cases ht with
  | mk hk hn hl hall =>
  intro σ π
  refine acalls_of [] mixed Try.func28 rfl (by kernel_rfl) (by kernel_rfl) ?_
  conv => whnf
  cases h1 : (k == k')
  · conv => whnf
    exact ⟨σ, π, fun _ _ h => h, fun _ _ h => h, congrArg Res.ret (by simp [Ty.same, h1]), rfl, rfl⟩
  · conv => whnf
    cases h2 : (n == n')
    · conv => whnf
      exact ⟨σ, π, fun _ _ h => h, fun _ _ h => h, congrArg Res.ret (by simp [Ty.same, h2]), rfl, rfl⟩
    · conv => whnf
      refine (equal_calls ks ks' hl fun t h u _ => ih t h u (hall t h)).use ?_
      conv => whnf
      exact ⟨σ, π, fun _ _ h => h, fun _ _ h => h, congrArg Res.ret (by simp [Ty.same, h1, h2]), rfl, rfl⟩

def sameHead : List Ty → Ty → Bool
  | [], _ => true
  | u :: _, t => Ty.same t u

/-- unify.same: all of a row the same as the first one. -/
theorem usame_calls (ts : List Ty) (hl : ts.length ≤ 2 ^ 47) (hts : ∀ t ∈ ts, t.Ok) : PCall Try.prog 21 [.sl (Ty.vs ts)] (vB (ts.all (sameHead ts))) := by
  intro σ π
  refine acalls_of [] mixed Try.func21 rfl (by kernel_rfl) (by kernel_rfl) ?_
  conv => whnf
  refine ⟨Upto ts (sameHead ts), fun i => { T := tOf [(0, tV (.sl (Ty.vs ts))), (5, tV (.sl (Ty.vs ts))), (6, tV (vI (Ty.vs ts).length)), (7, tV (vI i.1))], L := lOf [], σ := σ, π := π }, fun i => ts.length - i.1, ⟨.zero _ _, ?_⟩, fun i => ?_⟩
  · exact le_of ⟨.rfl, .rfl, .rfl, .rfl, trivial⟩ trivial rfl (fun _ _ h => h) (fun _ _ h => h)
  · conv => whnf
    rw [Ty.vs_length]
    cases h4 : decide ((i.1 : Int) < (ts.length : Int))
    · conv => whnf
      simp at h4
      exact ⟨σ, π, fun _ _ h => h, fun _ _ h => h, congrArg Res.ret (by rw [i.done (by omega)]), rfl, rfl⟩
    · simp at h4
      obtain ⟨tk, tn, us, ht⟩ := Ty.at h4
      obtain ⟨uk, un, vs, hu⟩ := Ty.at (ks := ts) (i := 0) (by omega)
      have hm := List.mem_of_getElem? ht
      have hhd : sameHead ts (.mk tk tn us) = Ty.same (.mk tk tn us) (.mk uk un vs) := by
        cases ts with
        | nil => simp at h4
        | cons u us => simp at hu; rw [hu]; rfl
      conv => whnf
      refine ⟨Ty.v (.mk tk tn us), ⟨by omega, Ty.vs_get ht, rfl⟩, ?_⟩
      conv => whnf
      refine ⟨Ty.v (.mk uk un vs), ⟨by omega, Ty.vs_get hu, rfl⟩, ?_⟩
      conv => whnf
      refine (tsame_calls (.mk tk tn us) (.mk uk un vs) (hts _ hm)).use ?_
      conv => whnf
      refine ⟨trivial, ?_⟩
      conv => whnf
      cases h5 : Ty.same (.mk tk tn us) (.mk uk un vs)
      · conv => whnf
        exact ⟨σ, π, fun _ _ h => h, fun _ _ h => h, congrArg Res.ret (by rw [all_false ht (hhd.trans h5)]), rfl, rfl⟩
      · conv => whnf
        exact ⟨i.succ ht (hhd.trans h5), le_of ⟨.rfl, .rfl, .rfl, .succ h4 hl, trivial⟩ trivial rfl (fun _ _ h => h) (fun _ _ h => h), by show ts.length - (i.1 + 1) < ts.length - i.1; omega⟩

/-- The values of books. -/
abbrev nilB : V := .raw (.pointer none)
abbrev bookO (n : Int) (lm : Nat) : Option Obj := some (.var [(vI n, .no), (.mp lm, .no)])

theorem vars_nil : PCall Try.prog 17 [nilB] (vI 0) := by
  intro σ π
  refine acalls_of [] mixed Try.func17 rfl (by kernel_rfl) (by kernel_rfl) ?_
  conv => whnf
  exact ⟨σ, π, fun _ _ h => h, fun _ _ h => h, congrArg Res.ret (rfl), rfl, rfl⟩

theorem vars_calls {σ : Store} {l lm : Nat} {n : Int} (h : σ l = bookO n lm) (π : Toks) : SCall Try.prog 17 [.ref l 0] σ π (vI n) := by
  refine acalls_of [] mixed Try.func17 rfl (by kernel_rfl) (by kernel_rfl) ?_
  conv => whnf
  refine ⟨_, h, _, rfl, ?_⟩
  conv => whnf
  exact ⟨σ, π, fun _ _ h => h, fun _ _ h => h, congrArg Res.ret (rfl), rfl, rfl⟩

def Ty.known (m : Int) : Ty → Bool := Ty.all fun k n _ => !(k == 5 && decide (n ≥ m))

theorem Ty.known_mk (m k n : Int) (ks : List Ty) : Ty.known m (.mk k n ks) = (!(k == 5 && decide (n ≥ m)) && ks.all (Ty.known m)) := Ty.all_mk ..

theorem has_row (b : V) (m : Int) (σ : Store) (π : Toks) (hb : SCall Try.prog 17 [b] σ π (vI m)) (ts : List Ty) (hl : ts.length ≤ 2 ^ 47)
    (h : ∀ k n ks, .mk k n ks ∈ ts → SCall Try.prog 27 [b, .sl (Ty.vs ks)] σ π (vB (ks.all (Ty.known m)))) : SCall Try.prog 27 [b, .sl (Ty.vs ts)] σ π (vB (ts.all (Ty.known m))) := by
  refine acalls_of [] mixed Try.func27 rfl (by kernel_rfl) (by kernel_rfl) ?_
  conv => whnf
  refine ⟨Upto ts (Ty.known m), fun i => { T := tOf [(0, tV b), (7, tV (.sl (Ty.vs ts))), (8, tV (vI (Ty.vs ts).length)), (9, tV (vI i.1))], L := lOf [], σ := σ, π := π }, fun i => ts.length - i.1, ⟨.zero _ _, ?_⟩, fun i => ?_⟩
  · exact le_of ⟨.rfl, .rfl, .rfl, .rfl, trivial⟩ trivial rfl (fun _ _ h => h) (fun _ _ h => h)
  · conv => whnf
    rw [Ty.vs_length]
    cases h4 : decide ((i.1 : Int) < (ts.length : Int))
    · conv => whnf
      simp at h4
      exact ⟨σ, π, fun _ _ h => h, fun _ _ h => h, congrArg Res.ret (by rw [i.done (by omega)]), rfl, rfl⟩
    · simp at h4
      obtain ⟨tk, tn, us, ht⟩ := Ty.at h4
      have hm := List.mem_of_getElem? ht
      conv => whnf
      refine ⟨Ty.v (.mk tk tn us), ⟨by omega, Ty.vs_get ht, rfl⟩, ?_⟩
      conv => whnf
      have hbad : (tk == 5) = true → decide (tn ≥ m) = true → ts.all (Ty.known m) = false := fun h1 h2 => all_false ht (by rw [Ty.known_mk, h1, h2]; rfl)
      cases h1 : (tk == 5)
      · conv => whnf
        refine (h tk tn us hm).use ?_
        conv => whnf
        refine ⟨trivial, ?_⟩
        conv => whnf
        cases h3 : us.all (Ty.known m)
        · conv => whnf
          exact ⟨σ, π, fun _ _ h => h, fun _ _ h => h, congrArg Res.ret (by rw [all_false ht (by rw [Ty.known_mk, h3, Bool.and_false])]), rfl, rfl⟩
        · conv => whnf
          exact ⟨i.succ ht (by rw [Ty.known_mk, h3, h1]; rfl), le_of ⟨.rfl, .rfl, .rfl, .succ h4 hl, trivial⟩ trivial rfl (fun _ _ h => h) (fun _ _ h => h), by show ts.length - (i.1 + 1) < ts.length - i.1; omega⟩
      · conv => whnf
        refine hb.use ?_
        conv => whnf
        refine ⟨trivial, ?_⟩
        conv => whnf
        cases h2 : decide (tn ≥ m)
        · conv => whnf
          refine (h tk tn us hm).use ?_
          conv => whnf
          refine ⟨trivial, ?_⟩
          conv => whnf
          cases h3 : us.all (Ty.known m)
          · conv => whnf
            exact ⟨σ, π, fun _ _ h => h, fun _ _ h => h, congrArg Res.ret (by rw [all_false ht (by rw [Ty.known_mk, h3, Bool.and_false])]), rfl, rfl⟩
          · conv => whnf
            exact ⟨i.succ ht (by rw [Ty.known_mk, h3, h2, h1]; rfl), le_of ⟨.rfl, .rfl, .rfl, .succ h4 hl, trivial⟩ trivial rfl (fun _ _ h => h) (fun _ _ h => h), by show ts.length - (i.1 + 1) < ts.length - i.1; omega⟩
        · conv => whnf
          exact ⟨σ, π, fun _ _ h => h, fun _ _ h => h, congrArg Res.ret (by rw [hbad h1 h2]), rfl, rfl⟩

theorem has_type (b : V) (m : Int) (σ : Store) (π : Toks) (hb : SCall Try.prog 17 [b] σ π (vI m)) : ∀ t : Ty, t.Ok → ∀ k n ks, t = .mk k n ks → SCall Try.prog 27 [b, .sl (Ty.vs ks)] σ π (vB (ks.all (Ty.known m))) := by
  refine Ty.ind fun k n ks ih ht k' n' ks' e => ?_
  cases e
  cases ht with
  | mk hk hn hl hall => exact has_row b m σ π hb ks hl fun k n us hm => ih _ hm (hall _ hm) k n us rfl

theorem ubhas_calls (b : V) (m : Int) (σ : Store) (π : Toks) (hb : SCall Try.prog 17 [b] σ π (vI m)) (ts : List Ty) (hl : ts.length ≤ 2 ^ 47) (hts : ∀ t ∈ ts, t.Ok) : SCall Try.prog 27 [b, .sl (Ty.vs ts)] σ π (vB (ts.all (Ty.known m))) :=
  has_row b m σ π hb ts hl fun k n ks hm => has_type b m σ π hb _ (hts _ hm) k n ks rfl

theorem knows_calls (b : V) (m : Int) (σ : Store) (π : Toks) (hb : SCall Try.prog 17 [b] σ π (vI m)) (ts : List Ty) (hl : ts.length ≤ 2 ^ 47) (hts : ∀ t ∈ ts, t.Ok) :
    SCall Try.prog 20 [b, .sl (Ty.vs ts)] σ π (vB (ts.all Ty.may && ts.all (Ty.known m))) := by
  refine acalls_of [] mixed Try.func20 rfl (by kernel_rfl) (by kernel_rfl) ?_
  conv => whnf
  refine ⟨Upto ts Ty.may, fun i => { T := tOf [(0, tV b), (1, tV (.sl (Ty.vs ts))), (7, tV (.sl (Ty.vs ts))), (8, tV (vI (Ty.vs ts).length)), (9, tV (vI i.1))], L := lOf [], σ := σ, π := π }, fun i => ts.length - i.1, ⟨.zero _ _, ?_⟩, fun i => ?_⟩
  · exact le_of ⟨.rfl, .rfl, .rfl, .rfl, .rfl, trivial⟩ trivial rfl (fun _ _ h => h) (fun _ _ h => h)
  · conv => whnf
    rw [Ty.vs_length]
    cases h4 : decide ((i.1 : Int) < (ts.length : Int))
    · conv => whnf
      simp at h4
      refine (ubhas_calls b m σ π hb ts hl hts).use ?_
      conv => whnf
      exact ⟨σ, π, fun _ _ h => h, fun _ _ h => h, congrArg Res.ret (by rw [i.done (by omega)]; rfl), rfl, rfl⟩
    · simp at h4
      obtain ⟨tk, tn, us, ht⟩ := Ty.at h4
      have hm := List.mem_of_getElem? ht
      conv => whnf
      refine ⟨Ty.v (.mk tk tn us), ⟨by omega, Ty.vs_get ht, rfl⟩, ?_⟩
      conv => whnf
      refine (tmay_calls _ (hts _ hm)).use ?_
      conv => whnf
      cases h5 : Ty.may (.mk tk tn us)
      · conv => whnf
        exact ⟨σ, π, fun _ _ h => h, fun _ _ h => h, congrArg Res.ret (by rw [all_false ht h5]; rfl), rfl, rfl⟩
      · conv => whnf
        exact ⟨i.succ ht h5, le_of ⟨.rfl, .rfl, .rfl, .rfl, .succ h4 hl, trivial⟩ trivial rfl (fun _ _ h => h) (fun _ _ h => h), by show ts.length - (i.1 + 1) < ts.length - i.1; omega⟩
end Go.Lf
