/- The statement of layer 9 on a row of pairs that grows, walked: it is true. -/
import Derived.Test.YtmdjomilicoobaaUq2
namespace Go.Lf
open Go Go.Proofs
set_option maxRecDepth 10000
set_option maxHeartbeats 4000000

/-- A pair of the one ahead twice, so often. -/
def PT : Nat → Ty → Ty
  | 0, t => t
  | k + 1, t => tPair (PT k t) (PT k t)

theorem PT_size : ∀ (k : Nat) (t : Ty), (PT k t).size + 1 = 2 ^ k * (t.size + 1)
  | 0, t => by simp [PT]
  | k + 1, t => by
    have := PT_size k t
    rw [PT, Ty.size, Ty.sizes, Ty.sizes, Ty.sizes, Nat.pow_succ]
    have e : 2 ^ k * 2 * (t.size + 1) = 2 * (2 ^ k * (t.size + 1)) := by rw [Nat.mul_comm (2 ^ k) 2, Nat.mul_assoc]
    rw [e, ← this]; omega

theorem PT_inj : ∀ (k : Nat) {t u : Ty}, PT k t = PT k u → t = u
  | 0, _, _, h => h
  | k + 1, _, _, h => by
    rw [PT, PT] at h
    injection h with _ _ h
    injection h with h _
    exact PT_inj k h

def GS (i : Nat) (τ : Int → Ty) : Prop := ∀ j : Nat, j < i → τ (2 * (j : Int) + 2) = tPair (τ (2 * (j : Int))) (τ (2 * (j : Int))) ∧ τ (2 * (j : Int) + 2 + 1) = tPair (τ (2 * (j : Int) + 1)) (τ (2 * (j : Int) + 1))

theorem GS.tell {i : Nat} {τ : Int → Ty} (h : GS i τ) : ∀ k : Nat, k ≤ i → τ (2 * (k : Int)) = PT k (τ 0) ∧ τ (2 * (k : Int) + 1) = PT k (τ 1)
  | 0, _ => ⟨rfl, rfl⟩
  | k + 1, hk => by
    obtain ⟨h1, h2⟩ := h.tell k (by omega)
    obtain ⟨h3, h4⟩ := h k (by omega)
    rw [show 2 * ((k + 1 : Nat) : Int) = 2 * (k : Int) + 2 by omega, h3, h4, h1, h2]
    exact ⟨rfl, rfl⟩

/-- A solution. -/
def gsol (a b : Ty) : Int → Ty := fun v => if v % 2 = 0 then PT (v / 2).toNat a else PT (v / 2).toNat b

theorem gsol_even (a b : Ty) (k : Nat) : gsol a b (2 * (k : Int)) = PT k a := by
  unfold gsol
  rw [if_pos (by omega), show (2 * (k : Int) / 2).toNat = k by omega]
theorem gsol_odd (a b : Ty) (k : Nat) : gsol a b (2 * (k : Int) + 1) = PT k b := by
  unfold gsol
  rw [if_neg (by omega), show ((2 * (k : Int) + 1) / 2).toNat = k by omega]

theorem gsol_GS (a b : Ty) (i : Nat) : GS i (gsol a b) := fun j _ => by
  have e : 2 * (j : Int) + 2 = 2 * ((j + 1 : Nat) : Int) := by omega
  rw [e, gsol_even, gsol_even, gsol_odd, gsol_odd]
  exact ⟨rfl, rfl⟩

theorem GS_succ {i : Nat} {τ : Int → Ty} : GS (i + 1) τ ↔ (GS i τ ∧ τ (2 * (i : Int) + 2) = tPair (τ (2 * (i : Int))) (τ (2 * (i : Int)))) ∧ τ (2 * (i : Int) + 2 + 1) = tPair (τ (2 * (i : Int) + 1)) (τ (2 * (i : Int) + 1)) := by
  constructor
  · intro h
    exact ⟨⟨fun j hj => h j (by omega), (h i (by omega)).1⟩, (h i (by omega)).2⟩
  · rintro ⟨⟨h1, h2⟩, h3⟩ j hj
    by_cases e : j = i
    · subst e; exact ⟨h2, h3⟩
    · exact h1 j (by omega)

theorem Sn.var_of {n : Int} {m : Mp} (hb : Bk n m) {s : Int → Ty} (hs : Sn m s) {τ : Int → Ty} (hτ : Sol m τ) {v : Int} (h0 : 0 ≤ v) (h1 : v < n) (hk : (τ v).kind = 5) : ∃ r, s v = tv r ∧ 0 ≤ r ∧ r ≤ v := by
  obtain ⟨ρ, hρ⟩ := hb.rank
  have e := hs.most hρ hτ v
  have hk' : (s v).kind = 5 := Ty.sub_kind (τ := τ) (by rw [e]; exact hk)
  have hg := Sn.gd hb hs h0 h1
  cases e2 : s v with
  | mk k r ks =>
    rw [e2] at hk' hg
    have hk' : k = 5 := hk'
    subst hk'
    obtain ⟨h2, h3⟩ := hs.least hρ (hb.least s hs) v r ks e2
    subst h3
    exact ⟨r, rfl, hg.var.2.1, h2⟩

theorem big_iff (i : Nat) : 500 < 2 ^ i * 2 - 1 ↔ 8 ≤ i := by
  constructor
  · intro h
    refine Nat.le_of_not_lt fun hi => ?_
    have : 2 ^ i ≤ 2 ^ 7 := Nat.pow_le_pow_right (by omega) (by omega)
    omega
  · intro h
    have : 2 ^ 8 ≤ 2 ^ i := Nat.pow_le_pow_right (by omega) h
    omega
end Go.Lf
