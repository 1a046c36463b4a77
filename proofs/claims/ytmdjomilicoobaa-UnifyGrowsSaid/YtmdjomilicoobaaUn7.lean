/- Books as maps, without the program: what may be written into them. -/
import Derived.Test.YtmdjomilicoobaaUn6
import Derived.Test.YtmdjomilicoobaaUn5
namespace Go.Lf
open Go Go.Proofs

/-- A type that a book may know. -/
structure Gd (n : Int) (t : Ty) : Prop where
  ok : t.Ok
  may : t.may = true
  known : t.known n = true

theorem Gd.kid {n k w : Int} {ks : List Ty} (h : Gd n (.mk k w ks)) {t : Ty} (ht : t ∈ ks) : Gd n t := by
  obtain ⟨h1, h2, h3⟩ := h
  cases h1 with
  | mk hk hn hl hall =>
  rw [Ty.may_mk, Bool.and_eq_true, List.all_eq_true] at h2
  rw [Ty.known_mk, Bool.and_eq_true, List.all_eq_true] at h3
  exact ⟨hall t ht, h2.2 t ht, h3.2 t ht⟩

theorem Gd.var {n w : Int} {ks : List Ty} (h : Gd n (.mk 5 w ks)) : ks = [] ∧ 0 ≤ w ∧ w < n := by
  have h1 := Ty.may_var h.may
  have h3 := h.known
  rw [Ty.known_mk, Bool.and_eq_true] at h3
  simp at h3
  exact ⟨h1.1, h1.2, h3.1⟩

theorem Gd.tv {n w : Int} (hn : n ≤ 2 ^ 47) (h0 : 0 ≤ w) (h1 : w < n) : Gd n (tv w) := by
  refine ⟨.mk (by omega) (by omega) (by simp) (by simp), ?_, ?_⟩
  · rw [Ty.may_mk]; simp [nodeMay, kidsN]; omega
  · rw [Ty.known_mk]; simp; omega

theorem Gd.shape {n k w : Int} {ks : List Ty} (h : Gd n (.mk k w ks)) (hk : k ≠ 5) : w = 0 ∧ (ks.length : Int) = kidsN k := by
  have h2 := h.may
  rw [Ty.may_mk, Bool.and_eq_true] at h2
  have h3 := h2.1
  simp [nodeMay, hk] at h3
  exact ⟨by omega, h3.1.1⟩

/-- What can be come to from a type. -/
inductive Reach (m : Mp) (w : Int) : Ty → Prop
  | here {t : Ty} (h : Ty.Hv w t) : Reach m w t
  | step {t x : Ty} {u : Int} (h : Ty.Hv u t) (hx : m u = some x) (hr : Reach m w x) : Reach m w t

theorem Reach.kid {m : Mp} {w k n : Int} {ks : List Ty} {t : Ty} (hk : k ≠ 5) (ht : t ∈ ks) (h : Reach m w t) : Reach m w (.mk k n ks) := by
  cases h with
  | here h => exact .here (.kid hk ht h)
  | step h hx hr => exact .step (.kid hk ht h) hx hr

theorem Reach.of_mk {m : Mp} {w k n : Int} {ks : List Ty} (hk : k ≠ 5) (h : Reach m w (.mk k n ks)) : ∃ t ∈ ks, Reach m w t := by
  cases h with
  | here h => cases h with
    | var => exact absurd rfl hk
    | kid _ h1 h2 => exact ⟨_, h1, .here h2⟩
  | step h hx hr => cases h with
    | var => exact absurd rfl hk
    | kid _ h1 h2 => exact ⟨_, h1, .step h2 hx hr⟩

theorem Reach.of_var {m : Mp} {w n : Int} {ks : List Ty} (h : Reach m w (.mk 5 n ks)) : w = n ∨ ∃ x, m n = some x ∧ Reach m w x := by
  cases h with
  | here h => cases h with
    | var => exact .inl rfl
    | kid hk => exact absurd rfl hk
  | step h hx hr => cases h with
    | var => exact .inr ⟨_, hx, hr⟩
    | kid hk => exact absurd rfl hk

theorem Reach.trans {m : Mp} {w u : Int} {t x : Ty} (h : Reach m u t) (hx : m u = some x) (hr : Reach m w x) : Reach m w t := by
  induction h with
  | here h => exact .step h hx hr
  | step h hx' _ ih => exact .step h hx' ih

theorem Reach.rank {m : Mp} {ρ : Int → Nat} (hr : Rank m ρ) {w : Int} {t : Ty} {K : Nat} (h : Reach m w t) (hK : ∀ u, Ty.Hv u t → ρ u < K) : ρ w < K := by
  induction h with
  | here h => exact hK w h
  | step h hx _ ih => exact ih fun u hu => by have := hr _ _ hx u hu; have := hK _ h; omega

def mset (m : Mp) (v : Int) (t : Ty) : Mp := fun k => if k = v then some t else m k

theorem mset_same (m : Mp) (v : Int) (t : Ty) : mset m v t v = some t := if_pos rfl
theorem mset_ne (m : Mp) {v k : Int} (t : Ty) (h : k ≠ v) : mset m v t k = m k := if_neg h

theorem Ty.bound (ρ : Int → Nat) : ∀ t : Ty, ∃ K, ∀ w, Ty.Hv w t → ρ w < K := by
  refine Ty.ind fun k n ks ih => ?_
  by_cases hk : k = 5
  · subst hk
    exact ⟨ρ n + 1, fun w hw => by
      cases hw with
      | var => omega
      | kid hk => exact absurd rfl hk⟩
  · have : ∀ l : List Ty, (∀ t ∈ l, ∃ K, ∀ w, Ty.Hv w t → ρ w < K) → ∃ K, ∀ t ∈ l, ∀ w, Ty.Hv w t → ρ w < K := by
      intro l
      induction l with
      | nil => intro _; exact ⟨0, fun t h => by cases h⟩
      | cons t l ihl =>
        intro h
        obtain ⟨K1, h1⟩ := h t (by simp)
        obtain ⟨K2, h2⟩ := ihl fun u hu => h u (by simp [hu])
        refine ⟨max K1 K2, fun u hu w hw => ?_⟩
        rcases List.mem_cons.1 hu with rfl | hu
        · have := h1 w hw; omega
        · have := h2 u hu w hw; omega
    obtain ⟨K, hK⟩ := this ks ih
    exact ⟨K, fun w hw => by
      cases hw with
      | var => exact absurd rfl hk
      | kid _ h1 h2 => exact hK _ h1 w h2⟩

/-- All ways end when one more variable stands for something that it does not stand in. -/
theorem Rank.set {m : Mp} {ρ : Int → Nat} (hr : Rank m ρ) {v : Int} {t : Ty} (hv : ¬ Reach m v t) : ∃ ρ', Rank (mset m v t) ρ' := by
  classical
  obtain ⟨K, hK⟩ := Ty.bound ρ t
  refine ⟨fun w => if Reach m w t then ρ w else ρ w + K + 1, fun u x hu w hw => ?_⟩
  by_cases e : u = v
  · subst e
    rw [mset_same] at hu; cases hu
    simp only [if_neg hv, if_pos (Reach.here (m := m) hw)]
    have := hK w hw
    omega
  · rw [mset_ne m t e] at hu
    have h1 := hr u x hu w hw
    by_cases h2 : Reach m u t
    · simp only [if_pos h2, if_pos (h2.trans hu (.here hw))]; exact h1
    · simp only [if_neg h2]
      split
      · omega
      · omega

theorem Ty.size_sub_le (τ : Int → Ty) {u : Int} : ∀ {t : Ty}, Ty.Hv u t → (τ u).size ≤ (t.sub τ).size := by
  intro t h
  induction h with
  | var ks => rw [Ty.sub_var]; exact Nat.le_refl _
  | kid hk hm _ ih =>
    rw [Ty.sub_mk τ hk, Ty.size]
    have := Ty.sizes_mem (List.mem_map_of_mem (f := Ty.sub τ) hm)
    omega

theorem Ty.size_sub_lt (τ : Int → Ty) {u : Int} {t : Ty} (h : Ty.Hv u t) (hk : t.kind ≠ 5) : (τ u).size < (t.sub τ).size := by
  cases h with
  | var => exact absurd rfl hk
  | kid hk' hm ht =>
    rw [Ty.sub_mk τ hk', Ty.size]
    have := Ty.sizes_mem (List.mem_map_of_mem (f := Ty.sub τ) hm)
    have := Ty.size_sub_le τ ht
    omega

theorem Reach.size {m : Mp} {τ : Int → Ty} (hs : Sol m τ) {w : Int} {t : Ty} (h : Reach m w t) : (τ w).size ≤ (t.sub τ).size := by
  induction h with
  | here h => exact Ty.size_sub_le τ h
  | step h hx _ ih => rw [← hs _ _ hx] at ih; exact Nat.le_trans ih (Ty.size_sub_le τ h)

theorem Reach.size_lt {m : Mp} {τ : Int → Ty} (hs : Sol m τ) {w : Int} {t : Ty} (h : Reach m w t) (hk : t.kind ≠ 5) : (τ w).size < (t.sub τ).size := by
  cases h with
  | here h => exact Ty.size_sub_lt τ h hk
  | step h hx hr =>
    have h1 := hr.size hs
    rw [← hs _ _ hx] at h1
    exact Nat.lt_of_le_of_lt h1 (Ty.size_sub_lt τ h hk)

/-- A book that is in order. -/
structure Bk (n : Int) (m : Mp) : Prop where
  n1 : n ≤ 2 ^ 47
  ok : ∀ v t, m v = some t → 0 ≤ v ∧ v < n ∧ Gd n t
  rank : ∃ ρ, Rank m ρ
  least : ∀ s, Sn m s → Least m s

theorem Ty.kind_sub {τ : Int → Ty} {t : Ty} (h : t.kind ≠ 5) : (t.sub τ).kind = t.kind := by
  obtain ⟨k, n, ks⟩ := t
  have h : k ≠ 5 := h
  rw [Ty.sub_mk τ h]; rfl

/-- A variable that stood for nothing stands for something. -/
theorem Bk.stand {n : Int} {m : Mp} (h : Bk n m) {v : Int} {t : Ty} (hv : m v = none) (h0 : 0 ≤ v) (h1 : v < n) (ht : Gd n t) (hr : ¬ Reach m v t) (hl : t.kind = 5 → t.num < v ∨ ∃ x, m t.num = some x ∧ x.kind ≠ 5) :
    Bk n (mset m v t) ∧ ∀ τ, Sol (mset m v t) τ ↔ Sol m τ ∧ τ v = t.sub τ := by
  have hsol : ∀ τ, Sol (mset m v t) τ ↔ Sol m τ ∧ τ v = t.sub τ := fun τ => by
    constructor
    · intro hs
      refine ⟨fun u x hu => hs u x ?_, hs v t (mset_same ..)⟩
      rw [mset_ne m t (fun e => by subst e; rw [hv] at hu; cases hu)]; exact hu
    · rintro ⟨hs, he⟩ u x hu
      by_cases e : u = v
      · subst e; rw [mset_same] at hu; cases hu; exact he
      · rw [mset_ne m t e] at hu; exact hs u x hu
  obtain ⟨ρ, hρ⟩ := h.rank
  refine ⟨⟨h.n1, fun u x hu => ?_, hρ.set hr, fun s hs u x hu hk => ?_⟩, hsol⟩
  · by_cases e : u = v
    · subst e; rw [mset_same] at hu; cases hu; exact ⟨h0, h1, ht⟩
    · rw [mset_ne m t e] at hu; exact h.ok u x hu
  · by_cases e : u = v
    · subst e
      rw [mset_same] at hu; cases hu
      rcases hl hk with h2 | ⟨x, h2, h3⟩
      · exact .inl h2
      · refine .inr ?_
        rw [hs t.num, mset_ne m t (fun e => by rw [e, hv] at h2; cases h2), h2]
        simp only []
        rw [Ty.kind_sub h3]; exact h3
    · rw [mset_ne m t e] at hu
      obtain ⟨s0, hs0⟩ := hρ.sense
      rcases h.least s0 hs0 u x hu hk with h2 | h2
      · exact .inl h2
      · refine .inr ?_
        rw [← hs0.most hρ ((hsol s).1 hs.sol).1 x.num, Ty.kind_sub h2]
        exact h2

/-- A variable that stood for something stands for another one that does. -/
theorem Bk.link {n : Int} {m : Mp} (h : Bk n m) {x y : Int} {to ot : Ty} (hx : m x = some to) (hy : m y = some ot) (hne : x ≠ y) (hky : ot.kind ≠ 5) (hr : ¬ Reach m x ot) :
    Bk n (mset m x (tv y)) ∧ ∀ τ, Sol (mset m x (tv y)) τ ∧ to.sub τ = ot.sub τ ↔ Sol m τ ∧ τ x = τ y := by
  have hye : ∀ t, mset m x t y = some ot := fun t => by rw [mset_ne m t (fun e => hne e.symm)]; exact hy
  obtain ⟨ρ, hρ⟩ := h.rank
  refine ⟨⟨h.n1, fun u t hu => ?_, hρ.set fun hh => ?_, fun s hs => ?_⟩, fun τ => ⟨fun ⟨hs, he⟩ => ⟨fun u t hu => ?_, ?_⟩, fun ⟨hs, he⟩ => ⟨fun u t hu => ?_, ?_⟩⟩⟩
  · by_cases e : u = x
    · subst e; rw [mset_same] at hu; cases hu
      exact ⟨(h.ok _ _ hx).1, (h.ok _ _ hx).2.1, .tv h.n1 (h.ok _ _ hy).1 (h.ok _ _ hy).2.1⟩
    · rw [mset_ne m _ e] at hu; exact h.ok u t hu
  · rcases hh.of_var with h1 | ⟨t, h1, h2⟩
    · exact hne h1
    · rw [hy] at h1; cases h1; exact hr h2
  · obtain ⟨s0, hs0⟩ := hρ.sense
    have hsy : (s y).kind ≠ 5 := by
      rw [hs y, hye]
      simp only []
      rw [Ty.kind_sub hky]; exact hky
    have keep : ∀ k w, ρ w < k → (s0 w).kind ≠ 5 → (s w).kind ≠ 5 := by
      intro k
      induction k with
      | zero => intro w hw; omega
      | succ k ih =>
        intro w hw h1
        by_cases e : w = x
        · subst e
          rw [hs w, mset_same]
          simp only []
          rw [Ty.sub_var]
          exact hsy
        · rw [hs w, mset_ne m _ e]
          rw [hs0 w] at h1
          cases hm : m w with
          | none => rw [hm] at h1; exact h1
          | some t =>
            rw [hm] at h1
            simp only [] at h1 ⊢
            by_cases hk : t.kind = 5
            · obtain ⟨k', u, ks⟩ := t
              have hk : k' = 5 := hk
              subst hk
              rw [Ty.sub_var] at h1 ⊢
              exact ih u (by have := hρ w _ hm u (.var ks); omega) h1
            · rw [Ty.kind_sub hk]; exact hk
    intro u t hu hk
    by_cases e : u = x
    · subst e; rw [mset_same] at hu; cases hu
      exact .inr hsy
    · rw [mset_ne m _ e] at hu
      rcases h.least s0 hs0 u t hu hk with h2 | h2
      · exact .inl h2
      · exact .inr (keep _ _ (Nat.lt_succ_self _) h2)
  · by_cases e : u = x
    · subst e
      rw [hx] at hu; cases hu
      have h1 := hs u (tv y) (mset_same ..)
      rw [Ty.sub_var] at h1
      rw [h1, hs y ot (hye _), he]
    · exact hs u t (by rw [mset_ne m _ e]; exact hu)
  · have h1 := hs x (tv y) (mset_same ..)
    rwa [Ty.sub_var] at h1
  · by_cases e : u = x
    · subst e; rw [mset_same] at hu; cases hu
      rw [Ty.sub_var]; exact he
    · rw [mset_ne m _ e] at hu; exact hs u t hu
  · rw [← hs x to hx, ← hs y ot hy]; exact he

/-- How much can still be made to stand for something. -/
def wt : Option Ty → Nat
  | none => 2
  | some t => if t.kind = 5 then 0 else 1

def mu (m : Mp) : Nat → Nat
  | 0 => 0
  | k + 1 => mu m k + wt (m k)

theorem mu_set (m : Mp) (t : Ty) (v : Nat) (hw : wt (some t) < wt (m v)) : ∀ k, v < k → mu (mset m v t) k < mu m k := by
  have same : ∀ k, k ≤ v → mu (mset m v t) k = mu m k := by
    intro k
    induction k with
    | zero => intro _; rfl
    | succ k ih =>
      intro h
      rw [mu, mu, ih (by omega), mset_ne m t (by omega)]
  intro k
  induction k with
  | zero => intro h; omega
  | succ k ih =>
    intro h
    rw [mu, mu]
    by_cases e : k = v
    · subst e
      rw [same k (Nat.le_refl _), mset_same]; omega
    · have := ih (by omega)
      rw [mset_ne m t (by omega)]; omega

theorem mu_lt {m : Mp} {n : Int} {v : Int} {t : Ty} (h0 : 0 ≤ v) (h1 : v < n) (hw : wt (some t) < wt (m v)) : mu (mset m v t) n.toNat < mu m n.toNat := by
  have e : v = (v.toNat : Int) := by omega
  rw [e]
  exact mu_set m t v.toNat (by rw [← e]; exact hw) n.toNat (by omega)
end Go.Lf
