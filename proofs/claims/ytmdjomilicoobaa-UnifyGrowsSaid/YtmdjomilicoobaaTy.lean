/- Types as trees. -/
import Derived.Test.YtmdjomilicoobaaLf16
import Derived.Test.YtmdjomilicoobaaProg
namespace Go.Lf
open Go Go.Proofs

inductive Ty where
  | mk (kind : Int) (var : Int) (kids : List Ty)

mutual
def Ty.v : Ty → V
  | .mk k n ks => .agg [vU8 k, vI n, .sl (Ty.vs ks)]
def Ty.vs : List Ty → List V
  | [] => []
  | t :: ts => Ty.v t :: Ty.vs ts
end

theorem Ty.vs_map (ks : List Ty) : Ty.vs ks = ks.map Ty.v := by
  induction ks with
  | nil => rfl
  | cons t ts ih => simp [Ty.vs, ih]

theorem Ty.vs_get {ks : List Ty} {i : Nat} {t : Ty} (h : ks[i]? = some t) : (Ty.vs ks)[i]? = some t.v := by
  rw [Ty.vs_map]; simp [h]

theorem Ty.vs_length (ks : List Ty) : (Ty.vs ks).length = ks.length := by rw [Ty.vs_map]; simp

theorem mixed : Try.prog.follows .mixedOrders = true := by kernel_rfl

set_option maxRecDepth 10000

mutual
def Ty.same : Ty → Ty → Bool
  | .mk k n ks, .mk k' n' ks' => k == k' && n == n' && Ty.sames ks ks'
def Ty.sames : List Ty → List Ty → Bool
  | [], [] => true
  | t :: ts, u :: us => Ty.same t u && Ty.sames ts us
  | _, _ => false
end

theorem Ty.sames_at : ∀ (ks ks' : List Ty), ks.length = ks'.length → (∀ (i : Nat) (t u : Ty), ks[i]? = some t → ks'[i]? = some u → Ty.same t u = true) → Ty.sames ks ks' = true
  | [], [], _, _ => rfl
  | [], _ :: _, h, _ => by cases h
  | _ :: _, [], h, _ => by cases h
  | t :: ts, u :: us, h, hh => by
    simp only [Ty.sames, hh 0 t u rfl rfl, Bool.true_and]
    exact Ty.sames_at ts us (by simpa using h) (fun i a b h1 h2 => hh (i + 1) a b (by simpa using h1) (by simpa using h2))

theorem Ty.sames_of : ∀ {ks ks' : List Ty}, Ty.sames ks ks' = true → ks.length = ks'.length ∧ ∀ (i : Nat) (t u : Ty), ks[i]? = some t → ks'[i]? = some u → Ty.same t u = true
  | [], [], _ => ⟨rfl, fun i t u h => by simp at h⟩
  | [], _ :: _, h => by cases h
  | _ :: _, [], h => by cases h
  | t :: ts, u :: us, h => by
    simp only [Ty.sames, Bool.and_eq_true] at h
    obtain ⟨h1, h2⟩ := Ty.sames_of h.2
    refine ⟨by simp [h1], fun i a b ha hb => ?_⟩
    cases i with
    | zero => simp at ha hb; subst ha; subst hb; exact h.1
    | succ i => exact h2 i a b (by simpa using ha) (by simpa using hb)

set_option maxHeartbeats 1000000
theorem ref_same (k n k' n' : Int) (ks ks' : List Ty) (hks : ks.length ≤ 2 ^ 47)
    (ih : ∀ t ∈ ks, ∀ u ∈ ks', PCall Try.prog 14 [Ty.v t, Ty.v u] (vB (Ty.same t u))) : PCall Try.prog 14 [Ty.v (.mk k n ks), Ty.v (.mk k' n' ks')] (vB (Ty.same (.mk k n ks) (.mk k' n' ks'))) := by
  intro σ π
  refine acalls_of [] mixed Try.func14 rfl (by kernel_rfl) (by kernel_rfl) ?_
  conv => whnf
  cases h1 : (k != k')
  · conv => whnf
    cases h2 : (n != n')
    · conv => whnf
      cases h3 : (((Ty.vs ks).length : Int) != ((Ty.vs ks').length : Int))
      · have hl : ks.length = ks'.length := by simp [Ty.vs_length] at h3; omega
        conv => whnf
        refine ⟨{ i : Nat // i ≤ ks.length ∧ ∀ (j : Nat) (t u : Ty), j < i → ks[j]? = some t → ks'[j]? = some u → Ty.same t u = true }, fun i => { T := tOf [(2, .lref 2 0), (3, .lref 3 0), (29, tV (vI (Ty.vs ks).length)), (30, tV (vI i.1))], L := lOf [(2, [(vU8 k, .no), (vI n, .no), (.sl (Ty.vs ks), .no)]), (3, [(vU8 k', .no), (vI n', .no), (.sl (Ty.vs ks'), .no)])], σ := σ, π := π }, fun i => ks.length - i.1, ⟨⟨0, Nat.zero_le _, fun j t u h => by omega⟩, ?_⟩, ?_⟩
        · exact le_of ⟨.rfl, .rfl, .rfl, .rfl, trivial⟩ ⟨⟨_, rfl, .rfl⟩, ⟨_, rfl, .rfl⟩, trivial⟩ rfl (fun _ _ h => h) (fun _ _ h => h)
        · rintro ⟨i, hi, hall⟩
          conv => whnf
          cases h4 : decide ((i : Int) < ((Ty.vs ks).length : Int))
          · conv => whnf
            refine ⟨σ, π, fun _ _ h => h, fun _ _ h => h, congrArg Res.ret (?_ : vB true = _), rfl, rfl⟩
            rw [Ty.vs_length] at h4
            simp at h4
            simp only [Ty.same]
            rw [Ty.sames_at ks ks' hl (fun j t u h5 h6 => hall j t u (by have := (List.getElem?_eq_some_iff.1 h5).1; omega) h5 h6)]
            simp at h1 h2
            simp [h1, h2]
          · have h4' := h4
            rw [Ty.vs_length] at h4'
            simp at h4'
            obtain ⟨t, ht⟩ : ∃ t, ks[i]? = some t := ⟨ks[i], by simp [h4']⟩
            obtain ⟨u, hu⟩ : ∃ u, ks'[i]? = some u := ⟨ks'[i]'(by omega), by simp [hl ▸ h4']⟩
            obtain ⟨tk, tn, ts⟩ := t
            obtain ⟨uk, un, us⟩ := u
            conv => whnf
            refine ⟨Ty.v (.mk tk tn ts), ⟨by omega, Ty.vs_get ht, rfl⟩, ?_⟩
            conv => whnf
            refine ⟨Ty.v (.mk uk un us), ⟨by omega, Ty.vs_get hu, rfl⟩, ?_⟩
            conv => whnf
            refine (ih (.mk tk tn ts) (List.mem_of_getElem? ht) (.mk uk un us) (List.mem_of_getElem? hu)).use ?_
            conv => whnf
            refine ⟨trivial, ?_⟩
            conv => whnf
            cases h5 : Ty.same (.mk tk tn ts) (.mk uk un us)
            · conv => whnf
              refine ⟨σ, π, fun _ _ h => h, fun _ _ h => h, congrArg Res.ret (?_ : vB false = _), rfl, rfl⟩
              have : Ty.sames ks ks' = false := by
                cases h6 : Ty.sames ks ks' with
                | false => rfl
                | true => rw [(Ty.sames_of h6).2 i _ _ ht hu] at h5; cases h5
              simp [Ty.same, this]
            · conv => whnf
              refine ⟨⟨i + 1, h4', fun j t u hj ha hb => ?_⟩, ?_, ?_⟩
              · by_cases e : j = i
                · subst e; rw [ht] at ha; rw [hu] at hb; cases ha; cases hb; exact h5
                · exact hall j t u (by omega) ha hb
              · refine le_of ⟨.rfl, .rfl, .rfl, ?_, trivial⟩ ⟨⟨_, rfl, .rfl⟩, ⟨_, rfl, .rfl⟩, trivial⟩ rfl (fun _ _ h => h) (fun _ _ h => h)
                have : IntKind.i64.wrap ((i : Int) + 1) = ((i + 1 : Nat) : Int) := by rw [wrap_in (by omega) (by omega)]; omega
                show TLe (tV (vI (IntKind.i64.wrap ((i : Int) + 1)))) _
                rw [this]
                exact .rfl
              · show ks.length - (i + 1) < ks.length - i
                omega
      · conv => whnf
        refine ⟨σ, π, fun _ _ h => h, fun _ _ h => h, congrArg Res.ret (?_ : vB false = _), rfl, rfl⟩
        have : Ty.sames ks ks' = false := by
          cases h6 : Ty.sames ks ks' with
          | false => rfl
          | true => have := (Ty.sames_of h6).1; simp [Ty.vs_length, this] at h3
        simp [Ty.same, this]
    · conv => whnf
      refine ⟨σ, π, fun _ _ h => h, fun _ _ h => h, congrArg Res.ret (?_ : vB false = _), rfl, rfl⟩
      simp at h2
      simp [Ty.same, h2]
  · conv => whnf
    refine ⟨σ, π, fun _ _ h => h, fun _ _ h => h, congrArg Res.ret (?_ : vB false = _), rfl, rfl⟩
    simp at h1
    simp [Ty.same, h1]
end Go.Lf
