/- The statement of layer 9 on turned rows, walked. -/
import Derived.Test.YtmdjomilicoobaaUq1
namespace Go.Lf
open Go Go.Proofs
set_option maxRecDepth 10000
set_option maxHeartbeats 2000000

mutual
theorem Ty.same_refl : ∀ t : Ty, Ty.same t t = true
  | .mk k n ks => by rw [Ty.same, Ty.sames_refl ks]; simp
theorem Ty.sames_refl : ∀ ks : List Ty, Ty.sames ks ks = true
  | [] => by simp [Ty.sames]
  | t :: ts => by rw [Ty.sames, Ty.same_refl t, Ty.sames_refl ts]; rfl
end

theorem Gd.sub {n : Int} {s : Int → Ty} : ∀ t : Ty, Gd n t → (∀ w, Ty.Hv w t → Gd n (s w)) → Gd n (t.sub s) := by
  refine Ty.ind fun k w ks ih hg hv => ?_
  by_cases hk : k = 5
  · subst hk; rw [Ty.sub_var]; exact hv w (.var ks)
  · rw [Ty.sub_mk s hk]
    have hkid : ∀ t ∈ ks, Gd n (t.sub s) := fun t ht => ih t ht (hg.kid ht) fun u hu => hv u (.kid hk ht hu)
    refine ⟨?_, ?_, ?_⟩
    · cases hg.ok with
      | mk h1 h2 h3 h4 =>
        refine .mk h1 h2 (by simpa using h3) fun t ht => ?_
        obtain ⟨u, hu, rfl⟩ := List.mem_map.1 ht
        exact (hkid u hu).ok
    · have h2 := hg.may
      rw [Ty.may_mk, Bool.and_eq_true, List.all_eq_true] at h2 ⊢
      refine ⟨by simpa using h2.1, fun t ht => ?_⟩
      obtain ⟨u, hu, rfl⟩ := List.mem_map.1 ht
      exact (hkid u hu).may
    · have h2 := hg.known
      rw [Ty.known_mk, Bool.and_eq_true, List.all_eq_true] at h2 ⊢
      refine ⟨h2.1, fun t ht => ?_⟩
      obtain ⟨u, hu, rfl⟩ := List.mem_map.1 ht
      exact (hkid u hu).known

theorem Gd.hv {n w : Int} {t : Ty} (h : Ty.Hv w t) : Gd n t → 0 ≤ w ∧ w < n := by
  induction h with
  | var ks => exact fun hg => hg.var.2
  | kid hk hm _ ih => exact fun hg => ih (hg.kid hm)

theorem Sn.gd {n : Int} {m : Mp} (hb : Bk n m) {s : Int → Ty} (hs : Sn m s) {v : Int} (h0 : 0 ≤ v) (h1 : v < n) : Gd n (s v) := by
  obtain ⟨ρ, hρ⟩ := hb.rank
  have key : ∀ k v, ρ v < k → 0 ≤ v → v < n → Gd n (s v) := by
    intro k
    induction k with
    | zero => intro v hv; omega
    | succ k ih =>
      intro v hv h0 h1
      rw [hs v]
      cases hm : m v with
      | none => exact .tv hb.n1 h0 h1
      | some t =>
        have hg := (hb.ok v t hm).2.2
        refine Gd.sub t hg fun w hw => ?_
        obtain ⟨a, b⟩ := Gd.hv hw hg
        exact ih w (by have := hρ v t hm w hw; omega) a b
  exact key _ v (Nat.lt_succ_self _) h0 h1

theorem Ok.zero : (Ty.mk 0 0 []).Ok := .mk (by omega) (by omega) (by simp) (by simp)

theorem senseR_shape (ok : Bool) (t : Ty) (most : Int) (ht : ok = true → t.Ok) : ∃ k w ks e, (e = 0 ∨ e = 1 ∨ e = 3) ∧ senseR ok t most = .tup [(Ty.mk k w ks).v, vI e] ∧ (Ty.mk k w ks).Ok := by
  unfold senseR
  split
  · exact ⟨0, 0, [], 1, .inr (.inl rfl), rfl, Ok.zero⟩
  · split
    · obtain ⟨k, w, ks⟩ := t; exact ⟨k, w, ks, 0, .inl rfl, rfl, ht rfl⟩
    · exact ⟨0, 0, [], 3, .inr (.inr rfl), rfl, Ok.zero⟩

theorem alike_iff {τ : Int → Ty} {ts : List Ty} : Alike τ ts ↔ ∀ t ∈ ts, ∀ u ∈ ts, t.sub τ = u.sub τ := by
  constructor
  · intro h t ht u hu
    obtain ⟨i, hi, rfl⟩ := List.getElem_of_mem ht
    obtain ⟨j, hj, rfl⟩ := List.getElem_of_mem hu
    have h0 : ts[0]? = some (ts[0]'(by omega)) := by simp
    exact (h i _ _ h0 (by simp [hi])).symm.trans (h j _ _ h0 (by simp [hj]))
  · intro h j t u hu ht
    exact h u (List.mem_of_getElem? hu) t (List.mem_of_getElem? ht)

theorem alike_rev {τ : Int → Ty} {ts : List Ty} : Alike τ ts.reverse ↔ Alike τ ts := by rw [alike_iff, alike_iff]; simp

/-- Rows with the same types can be the same alike, and tell the same. -/
theorem JoinPost.rev {n : Int} {m m1 m2 : Mp} (hb : Bk n m) {ts us : List Ty} {b c : Bool} (hal : ∀ τ, Alike τ us ↔ Alike τ ts) (hgd : (∀ t ∈ us, Gd n t) ↔ ∀ t ∈ ts, Gd n t) (h1 : JoinPost n m ts b m1) (h2 : JoinPost n m us c m2) :
    b = c ∧ Bk n m1 ∧ Bk n m2 ∧ ∃ s, Sn m1 s ∧ Sn m2 s := by
  cases b with
  | true =>
    obtain ⟨e1, e2, e3⟩ := h1.1 rfl
    obtain ⟨ρ, hρ⟩ := e1.rank
    obtain ⟨s, hs⟩ := hρ.sense
    obtain ⟨hs0, ha⟩ := (e3 s).1 hs.sol
    have hc := h2.yes (hgd.2 e2) hs0 ((hal s).2 ha)
    subst hc
    obtain ⟨f1, f2, f3⟩ := h2.1 rfl
    obtain ⟨ρ', hρ'⟩ := f1.rank
    obtain ⟨s', hs'⟩ := hρ'.sense
    have : s = s' := funext fun v => e1.tells hs hρ' hs' (f1.least s' hs') (fun τ => by rw [e3 τ, f3 τ, hal τ]) v
    subst this
    exact ⟨rfl, e1, f1, s, hs, hs'⟩
  | false =>
    obtain ⟨e1, e2⟩ := h1.2 rfl
    have hc : c = false := by
      cases c with
      | false => rfl
      | true =>
        obtain ⟨f1, f2, f3⟩ := h2.1 rfl
        obtain ⟨ρ, hρ⟩ := f1.rank
        obtain ⟨s, hs⟩ := hρ.sense
        obtain ⟨hs0, ha⟩ := (f3 s).1 hs.sol
        exact absurd ((hal s).1 ha) (e2 (hgd.1 f2) s hs0)
    subst hc
    obtain ⟨f1, _⟩ := h2.2 rfl
    subst e1; subst f1
    obtain ⟨ρ, hρ⟩ := hb.rank
    obtain ⟨s, hs⟩ := hρ.sense
    exact ⟨rfl, hb, hb, s, hs, hs⟩

/-- A book of one's own: what was there ahead of it stands. -/
structure OwnB (σ0 σ : Store) (l lm : Nat) (n : Int) (m : Mp) : Prop where
  bk : σ l = bookO n lm
  mp : σ lm = mpO m
  l0 : σ0 l = none
  m0 : σ0 lm = none

def Kept (σ0 σ : Store) : Prop := ∀ k o, σ0 k = some o → σ k = some o

theorem OwnB.ne {σ0 σ : Store} {l lm l' lm' : Nat} {n n' : Int} {m m' : Mp} (h : OwnB σ0 σ l lm n m) (h' : OwnB σ0 σ l' lm' n' m') : l ≠ lm' := fun e => by
  subst e; have := h.bk.symm.trans h'.mp; cases this

theorem OwnB.new {σ0 σ σ1 : Store} (hk : Kept σ0 σ) {l lm : Nat} (h1 : σ l = none) (h2 : σ lm = none) (h3 : l ≠ lm) (h4 : σ1 = upd (upd σ lm (mpO fun _ => none)) l (bookO 0 lm)) :
    Kept σ0 σ1 ∧ OwnB σ0 σ1 l lm 0 (fun _ => none) ∧ ∀ k o, σ k = some o → σ1 k = some o ∧ k ≠ l ∧ k ≠ lm := by
  subst h4
  have hn : ∀ k, σ k = none → σ0 k = none := fun k h => by
    cases e : σ0 k with
    | none => rfl
    | some o => rw [hk k o e] at h; cases h
  have key : ∀ k o, σ k = some o → upd (upd σ lm (mpO fun _ => none)) l (bookO 0 lm) k = some o ∧ k ≠ l ∧ k ≠ lm := fun k o h => by
    have a1 : k ≠ l := fun e => by subst e; rw [h1] at h; cases h
    have a2 : k ≠ lm := fun e => by subst e; rw [h2] at h; cases h
    exact ⟨by rw [upd_ne _ _ a1, upd_ne _ _ a2]; exact h, a1, a2⟩
  exact ⟨fun k o h => (key k o (hk k o h)).1, ⟨upd_same .., by rw [upd_ne _ _ h3.symm, upd_same], hn l h1, hn lm h2⟩, key⟩

theorem OwnB.put {σ0 σ : Store} (hk : Kept σ0 σ) {l lm : Nat} {n n' : Int} {m : Mp} (h : OwnB σ0 σ l lm n m) : Kept σ0 (upd σ l (bookO n' lm)) ∧ OwnB σ0 (upd σ l (bookO n' lm)) l lm n' m := by
  have h3 : lm ≠ l := (h.ne h).symm
  exact ⟨fun k o hk' => by rw [upd_ne _ _ (fun e => by subst e; rw [h.l0] at hk'; cases hk')]; exact hk k o hk', upd_same .., by rw [upd_ne _ _ h3]; exact h.mp, h.l0, h.m0⟩

theorem OwnB.other {σ0 σ : Store} {l lm l' : Nat} {n : Int} {m : Mp} {x : Option Obj} (h : OwnB σ0 σ l lm n m) (h1 : l ≠ l') (h2 : lm ≠ l') : OwnB σ0 (upd σ l' x) l lm n m :=
  ⟨by rw [upd_ne _ _ h1]; exact h.bk, by rw [upd_ne _ _ h2]; exact h.mp, h.l0, h.m0⟩

theorem OwnB.join {σ0 σ σ1 : Store} (hk : Kept σ0 σ) {l lm lm' : Nat} {n : Int} {m m' : Mp} (h : OwnB σ0 σ l lm n m) (h1 : σ1 l = bookO n lm') (h2 : σ1 lm' = mpO m') (h3 : lm' = lm ∨ σ lm' = none) (h4 : ∀ k o, k ≠ l → k ≠ lm → σ k = some o → σ1 k = some o) :
    Kept σ0 σ1 ∧ OwnB σ0 σ1 l lm' n m' ∧ ∀ l' lx n' mx, l' ≠ l → lx ≠ lm → OwnB σ0 σ l' lx n' mx → OwnB σ0 σ1 l' lx n' mx ∧ lx ≠ lm' := by
  refine ⟨fun k o hk' => h4 k o (fun e => by subst e; rw [h.l0] at hk'; cases hk') (fun e => by subst e; rw [h.m0] at hk'; cases hk') (hk k o hk'), ⟨h1, h2, h.l0, ?_⟩, fun l' lx n' mx a1 a2 a3 => ?_⟩
  · rcases h3 with rfl | h3
    · exact h.m0
    · cases e : σ0 lm' with
      | none => rfl
      | some o => rw [hk _ o e] at h3; cases h3
  · refine ⟨⟨h4 _ _ a1 (a3.ne h) a3.bk, h4 _ _ (h.ne a3).symm a2 a3.mp, a3.l0, a3.m0⟩, fun e => ?_⟩
    subst e
    rcases h3 with e | h3
    · exact a2 e
    · rw [a3.mp] at h3; cases h3
end Go.Lf
