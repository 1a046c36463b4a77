/- Books as maps, without the program: what a type comes to, solutions, the most general one. -/
import Derived.Test.YtmdjomilicoobaaUn1
namespace Go.Lf
open Go Go.Proofs

/-- A type, each variable replaced. -/
def Ty.sub (τ : Int → Ty) : Ty → Ty
  | .mk k n ks => if k = 5 then τ n else .mk k n (ks.attach.map fun ⟨t, _⟩ => Ty.sub τ t)

theorem Ty.sub_var (τ : Int → Ty) (n : Int) (ks : List Ty) : Ty.sub τ (.mk 5 n ks) = τ n := by rw [Ty.sub, if_pos rfl]
theorem Ty.sub_mk (τ : Int → Ty) {k : Int} (hk : k ≠ 5) (n : Int) (ks : List Ty) : Ty.sub τ (.mk k n ks) = .mk k n (ks.map (Ty.sub τ)) := by
  rw [Ty.sub, if_neg hk]
  congr 1
  refine Eq.trans ?_ (List.attach_map_val (l := ks) (f := Ty.sub τ))
  rfl

/-- A variable stands in a type. -/
inductive Ty.Hv (w : Int) : Ty → Prop
  | var (ks : List Ty) : Ty.Hv w (.mk 5 w ks)
  | kid {k n : Int} {ks : List Ty} {t : Ty} (hk : k ≠ 5) (h : t ∈ ks) (ht : Ty.Hv w t) : Ty.Hv w (.mk k n ks)

theorem Ty.sub_congr {τ τ' : Int → Ty} : ∀ t : Ty, (∀ w, Ty.Hv w t → τ w = τ' w) → t.sub τ = t.sub τ' := by
  refine Ty.ind fun k n ks ih h => ?_
  by_cases hk : k = 5
  · subst hk; rw [Ty.sub_var, Ty.sub_var]; exact h n (.var ks)
  · rw [Ty.sub_mk τ hk, Ty.sub_mk τ' hk]
    congr 1
    exact List.map_congr_left fun t ht => ih t ht fun w hw => h w (.kid hk ht hw)

theorem Ty.sub_sub (τ τ' : Int → Ty) : ∀ t : Ty, (t.sub τ).sub τ' = t.sub fun w => (τ w).sub τ' := by
  refine Ty.ind fun k n ks ih => ?_
  by_cases hk : k = 5
  · subst hk; rw [Ty.sub_var, Ty.sub_var]
  · rw [Ty.sub_mk τ hk, Ty.sub_mk _ hk, Ty.sub_mk _ hk, List.map_map]
    congr 1
    exact List.map_congr_left fun t ht => ih t ht

abbrev Mp := Int → Option Ty
abbrev tv (n : Int) : Ty := .mk 5 n []

/-- What a book says holds. -/
def Sol (m : Mp) (τ : Int → Ty) : Prop := ∀ v t, m v = some t → τ v = t.sub τ

/-- All ways end. -/
def Rank (m : Mp) (ρ : Int → Nat) : Prop := ∀ v t, m v = some t → ∀ w, Ty.Hv w t → ρ w < ρ v

/-- What variables come to. -/
def Sn (m : Mp) (s : Int → Ty) : Prop := ∀ v, s v = match m v with
  | none => tv v
  | some t => t.sub s

def snF (m : Mp) : Nat → Int → Ty
  | 0, v => tv v
  | k + 1, v => match m v with
    | none => tv v
    | some t => t.sub (snF m k)

theorem snF_enough {m : Mp} {ρ : Int → Nat} (h : Rank m ρ) : ∀ (k k' : Nat) (v : Int), ρ v < k → ρ v < k' → snF m k v = snF m k' v
  | k + 1, k' + 1, v, h1, h2 => by
    unfold snF
    cases hm : m v with
    | none => rfl
    | some t => exact Ty.sub_congr t fun w hw => snF_enough h k k' w (by have := h v t hm w hw; omega) (by have := h v t hm w hw; omega)

theorem Rank.sense {m : Mp} {ρ : Int → Nat} (h : Rank m ρ) : ∃ s, Sn m s :=
  ⟨fun v => snF m (ρ v + 1) v, fun v => by
    show snF m (ρ v + 1) v = _
    unfold snF
    cases hm : m v with
    | none => rfl
    | some t => exact Ty.sub_congr t fun w hw => snF_enough h (ρ v) (ρ w + 1) w (h v t hm w hw) (by omega)⟩

theorem Sn.sol {m : Mp} {s : Int → Ty} (h : Sn m s) : Sol m s := fun v t hm => by rw [h v, hm]

/-- Any solution comes out of it. -/
theorem Sn.most {m : Mp} {ρ : Int → Nat} (hr : Rank m ρ) {s : Int → Ty} (h : Sn m s) {τ : Int → Ty} (hs : Sol m τ) : ∀ v, (s v).sub τ = τ v := by
  have key : ∀ k v, ρ v < k → (s v).sub τ = τ v := by
    intro k
    induction k with
    | zero => intro v hv; omega
    | succ k ih =>
      intro v hv
      rw [h v]
      cases hm : m v with
      | none => exact Ty.sub_var τ v []
      | some t =>
        rw [Ty.sub_sub, hs v t hm]
        exact Ty.sub_congr t fun w hw => ih w (by have := hr v t hm w hw; omega)
  exact fun v => key (ρ v + 1) v (by omega)

theorem Sn.most_t {m : Mp} {ρ : Int → Nat} (hr : Rank m ρ) {s : Int → Ty} (h : Sn m s) {τ : Int → Ty} (hs : Sol m τ) (t : Ty) : (t.sub s).sub τ = t.sub τ := by
  rw [Ty.sub_sub]
  exact Ty.sub_congr t fun w _ => h.most hr hs w

def Ty.kind : Ty → Int
  | .mk k _ _ => k
def Ty.num : Ty → Int
  | .mk _ n _ => n
def Ty.kids : Ty → List Ty
  | .mk _ _ ks => ks

theorem Ty.sub_kind {τ : Int → Ty} {t : Ty} (h : (t.sub τ).kind = 5) : t.kind = 5 := by
  obtain ⟨k, n, ks⟩ := t
  by_cases hk : k = 5
  · exact hk
  · rw [Ty.sub_mk τ hk] at h; exact absurd h hk

theorem Ty.may_var {n : Int} {ks : List Ty} (h : Ty.may (.mk 5 n ks) = true) : ks = [] ∧ 0 ≤ n := by
  rw [Ty.may, Ty.all_mk] at h
  simp [nodeMay, kidsN] at h
  exact ⟨h.1.1, h.1.2⟩

/-- The least variable stands for its kin. -/
def Least (m : Mp) (s : Int → Ty) : Prop := ∀ v t, m v = some t → t.kind = 5 → t.num < v ∨ (s t.num).kind ≠ 5

theorem Sn.least {m : Mp} {ρ : Int → Nat} (hr : Rank m ρ) {s : Int → Ty} (h : Sn m s) (hl : Least m s) : ∀ v r ks, s v = .mk 5 r ks → r ≤ v ∧ ks = [] := by
  have key : ∀ k v, ρ v < k → ∀ r ks, s v = .mk 5 r ks → r ≤ v ∧ ks = [] := by
    intro k
    induction k with
    | zero => intro v hv; omega
    | succ k ih =>
      intro v hv r ks e
      rw [h v] at e
      cases hm : m v with
      | none => rw [hm] at e; simp [tv] at e; obtain ⟨e1, e2⟩ := e; exact ⟨by omega, e2⟩
      | some t =>
        rw [hm] at e
        obtain ⟨k', n, ks'⟩ := t
        have hk : k' = 5 := Ty.sub_kind (τ := s) (t := .mk k' n ks') (by simp only [] at e; rw [e]; rfl)
        subst hk
        simp only [] at e
        rw [Ty.sub_var] at e
        have h2 := ih n (by have := hr v _ hm n (.var ks'); omega) r ks e
        rcases hl v _ hm rfl with h3 | h3
        · simp only [Ty.num] at h3; exact ⟨by omega, h2.2⟩
        · exact absurd (by simp only [Ty.num]; rw [e]; rfl) h3
  exact fun v => key (ρ v + 1) v (by omega)

/-- What is left as it is comes of a variable that stands for nothing. -/
theorem Sn.fix {m : Mp} {ρ : Int → Nat} (hr : Rank m ρ) {s : Int → Ty} (h : Sn m s) : ∀ v w, Ty.Hv w (s v) → s w = tv w := by
  have hsub : ∀ t : Ty, (∀ u, Ty.Hv u t → ∀ w, Ty.Hv w (s u) → s w = tv w) → ∀ w, Ty.Hv w (t.sub s) → s w = tv w := by
    refine Ty.ind fun k n ks ih hh w hw => ?_
    by_cases hk : k = 5
    · subst hk; rw [Ty.sub_var] at hw; exact hh n (.var ks) w hw
    · rw [Ty.sub_mk s hk] at hw
      cases hw with
      | var => exact absurd rfl hk
      | kid _ hm ht =>
        obtain ⟨t, h1, h2⟩ := List.mem_map.1 hm
        rw [← h2] at ht
        exact ih t h1 (fun u hu => hh u (.kid hk h1 hu)) w ht
  have key : ∀ k v, ρ v < k → ∀ w, Ty.Hv w (s v) → s w = tv w := by
    intro k
    induction k with
    | zero => intro v hv; omega
    | succ k ih =>
      intro v hv w hw
      rw [h v] at hw
      cases hm : m v with
      | none =>
        rw [hm] at hw
        cases hw with
        | var => rw [h v, hm]
        | kid hk => exact absurd rfl hk
      | some t =>
        rw [hm] at hw
        exact hsub t (fun u hu => ih u (by have := hr v t hm u hu; omega)) w hw
  exact fun v => key (ρ v + 1) v (by omega)

/-- TWO BOOKS WITH THE SAME SOLUTIONS TELL THE SAME SENSE. -/
theorem Sn.same {m m' : Mp} {ρ ρ' : Int → Nat} (hr : Rank m ρ) (hr' : Rank m' ρ') {s s' : Int → Ty} (h : Sn m s) (h' : Sn m' s') (hl : Least m s) (hl' : Least m' s') (hsol : ∀ τ, Sol m τ ↔ Sol m' τ) : ∀ v, s v = s' v := by
  have a1 : ∀ v, (s v).sub s' = s' v := h.most hr ((hsol _).2 h'.sol)
  have a2 : ∀ v, (s' v).sub s = s v := h'.most hr' ((hsol _).1 h.sol)
  have root : ∀ r, s r = tv r → s' r = tv r := fun r hr0 => by
    have e := a2 r
    rw [hr0] at e
    have hk : (s' r).kind = 5 := Ty.sub_kind (τ := s) (by rw [e]; rfl)
    cases e2 : s' r with
    | mk k n ks =>
      rw [e2] at hk
      have hk : k = 5 := hk
      subst hk
      obtain ⟨h1, h2⟩ := h'.least hr' hl' r n ks e2
      rw [e2, Ty.sub_var] at e
      obtain ⟨h3, _⟩ := h.least hr hl n r [] e
      rw [h2, show n = r by omega]
  intro v
  rw [← a1 v]
  refine (h.most hr h.sol v).symm.trans ?_
  exact Ty.sub_congr _ fun w hw => (h.fix hr v w hw).trans (root w (h.fix hr v w hw)).symm
end Go.Lf
