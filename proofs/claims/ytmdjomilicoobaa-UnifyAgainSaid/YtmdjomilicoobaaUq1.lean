/- The statements of layer 9: what they share. -/
import Derived.Test.YtmdjomilicoobaaUo3
namespace Go.Lf
open Go Go.Proofs
set_option maxRecDepth 10000
set_option maxHeartbeats 2000000

theorem Gd.mono {n n' : Int} (hn : n ≤ n') : ∀ t : Ty, Gd n t → Gd n' t := by
  refine Ty.ind fun k w ks ih h => ?_
  refine ⟨h.ok, h.may, ?_⟩
  have h3 := h.known
  rw [Ty.known_mk, Bool.and_eq_true, List.all_eq_true] at h3 ⊢
  refine ⟨?_, fun t ht => (ih t ht (h.kid ht)).known⟩
  have := h3.1
  simp at this ⊢
  omega

theorem Bk.grow {n n' : Int} {m : Mp} (h : Bk n m) (h1 : n ≤ n') (h2 : n' ≤ 2 ^ 47) : Bk n' m :=
  ⟨h2, fun v t hv => by obtain ⟨a, b, c⟩ := h.ok v t hv; exact ⟨a, by omega, c.mono h1⟩, h.rank, h.least⟩

theorem Bk.empty {n : Int} (h : n ≤ 2 ^ 47) : Bk n fun _ => none :=
  ⟨h, fun v t hv => (by cases hv), ⟨fun _ => 0, fun v t hv => (by cases hv)⟩, fun s _ v t hv => (by cases hv)⟩

theorem Sol.empty (τ : Int → Ty) : Sol (fun _ => none) τ := fun v t hv => by cases hv

theorem JoinPost.yes {n : Int} {m m' : Mp} {ts : List Ty} {b : Bool} (hp : JoinPost n m ts b m') (hg : ∀ t ∈ ts, Gd n t) {τ : Int → Ty} (hs : Sol m τ) (ha : Alike τ ts) : b = true := by
  cases b with
  | true => rfl
  | false => exact absurd ha ((hp.2 rfl).2 hg τ hs)

theorem alike_two {τ : Int → Ty} {x y : Ty} : Alike τ [x, y] ↔ x.sub τ = y.sub τ := by
  constructor
  · intro h; exact h 1 y x rfl rfl
  · intro h j t u hu ht
    simp at hu; subst hu
    match j with
    | 0 => simp at ht; subst ht; rfl
    | 1 => simp at ht; subst ht; exact h
    | j + 2 => simp at ht

abbrev tInt : Ty := .mk 1 0 []
abbrev tPair (a b : Ty) : Ty := .mk 2 0 [a, b]

theorem Gd.int {n : Int} : Gd n tInt := ⟨.mk (by omega) (by omega) (by simp) (by simp), by rw [Ty.may_mk]; simp [nodeMay, kidsN], by rw [Ty.known_mk]; simp⟩

theorem Gd.pair {n : Int} {a b : Ty} (ha : Gd n a) (hb : Gd n b) : Gd n (tPair a b) := by
  refine ⟨.mk (by omega) (by omega) (by simp) (fun t ht => ?_), ?_, ?_⟩
  · simp at ht
    rcases ht with rfl | rfl
    · exact ha.ok
    · exact hb.ok
  · rw [Ty.may_mk]; simp [nodeMay, kidsN, ha.may, hb.may]
  · rw [Ty.known_mk]; simp [ha.known, hb.known]

theorem sub_pair (τ : Int → Ty) (a b : Ty) : (tPair a b).sub τ = tPair (a.sub τ) (b.sub τ) := by rw [Ty.sub_mk τ (by omega)]; rfl
theorem sub_int (τ : Int → Ty) : tInt.sub τ = tInt := by rw [Ty.sub_mk τ (by omega)]; rfl

/-- What is told of a book is what is told of any other one with the same solutions. -/
theorem Bk.tells {n : Int} {m m' : Mp} (h : Bk n m) {s s' : Int → Ty} (hs : Sn m s) {ρ : Int → Nat} (hr' : Rank m' ρ) (hs' : Sn m' s') (hl' : Least m' s') (hsol : ∀ τ, Sol m τ ↔ Sol m' τ) (v : Int) : s v = s' v := by
  obtain ⟨ρ0, hr⟩ := h.rank
  exact hs.same hr hr' hs' (h.least s hs) hl' hsol v

theorem known_tv {v n : Int} (h0 : 0 ≤ v) (h : v < n) : ((tv v).may && (tv v).known n) = true := by
  rw [Ty.may_mk, Ty.known_mk]; simp [nodeMay, kidsN, h0, h]

theorem Ok.tv {v : Int} (h0 : -9223372036854775808 ≤ v) (h : v ≤ 9223372036854775807) : (tv v).Ok := .mk (by omega) (by omega) (by simp) (by simp)

/-- A variable's sense. -/
theorem Sense_var {σ : Store} {l lm : Nat} {n : Int} {m : Mp} (h : σ l = bookO n lm) (hm : σ lm = mpO m) (hb : Bk n m) {s : Int → Ty} (hsn : Sn m s) (v : Int) (h0 : 0 ≤ v) (h1 : v ≤ 2 ^ 47) {most : Int} (hm0 : 0 ≤ most) (hm1 : most ≤ 2 ^ 47) (π : Toks) :
    SCall Try.prog 12 [.ref l 0, (tv v).v, vI most] σ π (senseR ((tv v).may && (tv v).known n) (s v) most) := by
  have := Sense_calls (f := Ty.sub s) π (fun π => vars_calls h π) (tv v) (Ok.tv (by omega) (by omega)) (fun hk left hl0 hl1 π => sense_calls hb hsn h hm _ _ rfl ((knows_gd (ts := [tv v]) (by simpa using Ok.tv (by omega) (by omega))).1 (by simpa using hk) _ (by simp)) left hl0 hl1 π) hm0 hm1
  rwa [Ty.sub_var] at this

theorem awake_calls : PCall Try.prog 8 [] (vB true) := by
  intro σ π
  refine acalls_of [] mixed Try.func8 rfl (by kernel_rfl) (by kernel_rfl) ?_
  conv => whnf
  refine (new_calls σ π).mono fun r σ1 π1 ⟨l, lm, a1, a2, a3, a4, a5, a6⟩ => ?_
  subst a4; subst a6
  have h1 : σ1 l = bookO 0 lm := by rw [a5, upd_same]
  have h2 : σ1 lm = mpO fun _ => none := by rw [a5, upd_ne _ _ a3.symm, upd_same]
  have hk : ∀ k o, σ k = some o → σ1 k = some o := fun k o h => by
    rw [a5, upd_ne _ _ (fun e => by subst e; rw [a1] at h; cases h), upd_ne _ _ (fun e => by subst e; rw [a2] at h; cases h)]; exact h
  have hkl : ∀ k o, σ k = some o → k ≠ l ∧ k ≠ lm := fun k o h => ⟨fun e => (by subst e; rw [a1] at h; cases h), fun e => (by subst e; rw [a2] at h; cases h)⟩
  clear a5
  conv => whnf
  refine (fresh_calls h1 (by omega) π1).mono fun r σ2 π2 ⟨b1, b2, b3⟩ => ?_
  subst b1; subst b3
  have h3 : σ2 l = bookO 1 lm := by rw [b2, upd_same]; rfl
  have h4 : σ2 lm = mpO fun _ => none := by rw [b2, upd_ne _ _ a3.symm]; exact h2
  have hk2 : ∀ k o, σ k = some o → σ2 k = some o := fun k o h => by rw [b2, upd_ne _ _ (hkl k o h).1]; exact hk k o h
  clear b2 hk
  conv => whnf
  refine (fresh_calls h3 (by omega) π2).mono fun r σ3 π3 ⟨c1, c2, c3⟩ => ?_
  subst c1; subst c3
  have h5 : σ3 l = bookO 2 lm := by rw [c2, upd_same]; rfl
  have h6 : σ3 lm = mpO fun _ => none := by rw [c2, upd_ne _ _ a3.symm]; exact h4
  have hk3 : ∀ k o, σ k = some o → σ3 k = some o := fun k o h => by rw [c2, upd_ne _ _ (hkl k o h).1]; exact hk2 k o h
  clear c2 hk2
  have hp : Gd 2 (tPair tInt (tv 1)) := .pair .int (.tv (by omega) (by omega) (by omega))
  have hv0 : Gd 2 (tv 0) := .tv (by omega) (by omega) (by omega)
  have hall : ∀ t ∈ [tv 0, tPair tInt (tv 1)], Gd 2 t := by simpa using ⟨hv0, hp⟩
  conv => whnf
  refine (Join_calls h5 h6 (.empty (by omega)) π3 [tv 0, tPair tInt (tv 1)] (fun t ht => (hall t ht).ok) (by simp)).mono fun r σ4 π4 ⟨b, m', lm', d1, d2, d3, d4, d5, d6, d7⟩ => ?_
  subst d1; subst d6
  have hk4 : ∀ k o, σ k = some o → σ4 k = some o := fun k o h => d5 k o (hkl k o h).1 (hkl k o h).2 (hk3 k o h)
  have hb : b = true := d7.yes hall (τ := fun v => if v = 0 then tPair tInt (tv 1) else tv v) (.empty _) (by
    rw [alike_two, Ty.sub_var, sub_pair, sub_int, Ty.sub_var]; rfl)
  subst hb

  have e0 := d7.1 rfl
  have e1 := e0.1
  have e3 := e0.2.2
  refine Exists.elim e1.rank fun ρ hρ => Exists.elim hρ.sense fun s hs => ?_
  have hs0 : s 0 = tPair tInt (tv 1) := by
    refine (e1.tells hs (m' := mset (fun _ => none) 0 (tPair tInt (tv 1))) (ρ := fun v => if v = 0 then 1 else 0) (s' := fun v => if v = 0 then tPair tInt (tv 1) else tv v) ?_ ?_ ?_ ?_ 0).trans rfl
    · intro v t hv w hw
      by_cases e : v = 0
      · subst e
        rw [mset_same] at hv; cases hv
        have hw1 : w = 1 := by
          cases hw with
          | kid _ hm ht =>
            simp at hm
            rcases hm with rfl | rfl
            · cases ht with
              | kid _ hm _ => cases hm
            · cases ht with
              | var => rfl
              | kid hk => exact absurd rfl hk
        subst hw1; simp
      · rw [mset_ne _ _ e] at hv; cases hv
    · intro v
      by_cases e : v = 0
      · subst e; rw [mset_same]; simp only [if_true]; rw [sub_pair, sub_int, Ty.sub_var]; rfl
      · rw [mset_ne _ _ e]; simp only [if_neg e]
    · intro v t hv hk
      by_cases e : v = 0
      · subst e; rw [mset_same] at hv; cases hv; cases hk
      · rw [mset_ne _ _ e] at hv; cases hv
    · intro τ
      rw [e3 τ, alike_two, Ty.sub_var]
      constructor
      · rintro ⟨_, h⟩ v t hv
        by_cases e : v = 0
        · subst e; rw [mset_same] at hv; cases hv; exact h
        · rw [mset_ne _ _ e] at hv; cases hv
      · intro h; exact ⟨.empty _, h 0 _ (mset_same ..)⟩
  conv => whnf
  have hS := Sense_var d2 d3 e1 hs 0 (by omega) (by omega) (most := 9) (by omega) (by omega) π4
  rw [known_tv (by omega) (by omega), hs0] at hS
  refine hS.use ?_
  conv => whnf
  refine (same_calls (tPair tInt (tv 1)) (tPair tInt (tv 1)) hp.ok).use ?_
  conv => whnf
  refine (vars_calls d2 π4).use ?_
  conv => whnf
  exact ⟨σ, _, hk4, fun _ _ h => h, rfl, rfl, rfl⟩
end Go.Lf
