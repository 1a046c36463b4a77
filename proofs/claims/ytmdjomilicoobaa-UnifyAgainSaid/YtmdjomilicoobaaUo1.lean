/- The book, walked: stand, link. -/
import Derived.Test.YtmdjomilicoobaaUn9
namespace Go.Lf
open Go Go.Proofs
set_option maxRecDepth 10000
set_option maxHeartbeats 2000000

theorem mset_obj (m : Mp) (v : Int) (t : Ty) : (some (Obj.map fun n' => if n' = v then some t.v else (m n').map Ty.v)) = mpO (mset m v t) := by
  congr 2
  funext k
  unfold mset
  by_cases e : k = v <;> simp [e]

theorem keep1 {σ : Store} {lq lm : Nat} {x y : Option Obj} (hq : σ lq = none) : ∀ l' o, upd σ lm y l' = some o → upd (upd σ lq x) lm y l' = some o := fun l' o h => by
  by_cases e : l' = lm
  · subst e; rw [upd_same] at h ⊢; exact h
  · rw [upd_ne _ _ e] at h ⊢
    rw [upd_ne _ _ (fun e' => by subst e'; rw [hq] at h; cases h)]; exact h

theorem upd_self {σ : Store} {l : Nat} {x : Option Obj} (h : σ l = x) : upd σ l x = σ := by
  funext k
  by_cases e : k = l
  · subst e; rw [upd_same]; exact h.symm
  · rw [upd_ne _ _ e]

theorem keep0 {σ : Store} {lq lm : Nat} {m : Mp} {x : Option Obj} (hm : σ lm = mpO m) (hq : σ lq = none) : ∀ l' o, upd σ lm (mpO m) l' = some o → upd σ lq x l' = some o := fun l' o h => by
  rw [upd_self hm] at h
  exact upd_keep hq l' o h

theorem none_ne {σ : Store} {a b : Nat} {x : Obj} (h : σ a = none) (h' : σ b = some x) : a ≠ b := fun e => by subst e; rw [h] at h'; cases h'

def StR (σ : Store) (lm : Nat) (π : Toks) (n : Int) (m : Mp) (v : Int) (t : Ty) : Res → Store → Toks → Prop := fun r σ' π' => ∃ b m', r = .ret (vB b) ∧ σ' = upd σ lm (mpO m') ∧ π' = π ∧
  (b = true → m' = mset m v t ∧ ¬ Reach m v t) ∧ (b = false → Reach m v t)

theorem stand_calls {σ : Store} {l lm : Nat} {n : Int} {m : Mp} (h : σ l = bookO n lm) (hm : σ lm = mpO m) (hb : Bk n m) (π : Toks) (v : Int) (t : Ty) (ht : Gd n t) :
    ACalls Try.prog 33 [.ref l 0, vI v, t.v] σ π (StR σ lm π n m v t) := by
  obtain ⟨ρ, hρ⟩ := hb.rank
  obtain ⟨k, w, ks⟩ := t
  refine acalls_of [10] mixed Try.func33 rfl (by kernel_rfl) (by kernel_rfl) ?_
  conv => whnf
  intro lq hlq
  conv => whnf
  have hlq : σ lq = none := hlq
  have h1 := none_ne hlq h
  have h2 := none_ne hlq hm
  have key := in_calls h hm hb h1 h2 π v hρ (Ty.bound ρ (.mk k w ks)).choose (.mk k w ks) (Ty.bound ρ (.mk k w ks)).choose_spec ht (fun _ => false) (fun w e => by cases e)
  refine key.mono fun r σ' π' ⟨b, q', h4, h5, h6, h7⟩ => ?_
  subst h4; subst h5; subst h6
  conv => whnf
  cases b
  · conv => whnf
    refine ⟨_, (upd_ne _ _ h1.symm).trans h, _, rfl, ?_⟩
    conv => whnf
    refine ⟨_, (upd_ne _ _ h2.symm).trans hm, ?_⟩
    conv => whnf
    refine ⟨trivial, ?_⟩
    conv => whnf
    refine ⟨upd σ lm (mpO (mset m v (.mk k w ks))), _, ?_, fun _ _ h => h, true, _, rfl, rfl, rfl, fun _ => ⟨rfl, (h7.2 rfl).1⟩, fun e => (by cases e)⟩
    rw [← mset_obj]
    exact keep1 hlq
  · conv => whnf
    refine ⟨upd σ lm (mpO m), _, keep0 hm hlq, fun _ _ h => h, false, m, rfl, rfl, rfl, fun e => (by cases e), fun _ => h7.1 rfl⟩

def JPost (n : Int) (m : Mp) (x y : Ty) (b : Bool) (m' : Mp) : Prop :=
  (b = true → Bk n m' ∧ (m' = m ∨ mu m' n.toNat < mu m n.toNat) ∧ ∀ τ, Sol m' τ ↔ Sol m τ ∧ x.sub τ = y.sub τ) ∧ (b = false → ∀ τ, Sol m τ → x.sub τ ≠ y.sub τ)

def JR (σ : Store) (lm : Nat) (π : Toks) (n : Int) (m : Mp) (x y : Ty) : Res → Store → Toks → Prop := fun r σ' π' => ∃ b m', r = .ret (vB b) ∧ σ' = upd σ lm (mpO m') ∧ π' = π ∧ JPost n m x y b m'

def JSpec (n : Int) (m : Mp) : Prop := ∀ (σ : Store) (π : Toks) (l lm : Nat) (x y : Ty), σ l = bookO n lm → σ lm = mpO m → Gd n x → Gd n y → ACalls Try.prog 23 [.ref l 0, x.v, y.v] σ π (JR σ lm π n m x y)

theorem JPost.no {n : Int} {m m' : Mp} {x y : Ty} (h : ∀ τ, Sol m τ → x.sub τ ≠ y.sub τ) : JPost n m x y false m' := ⟨fun e => (by cases e), fun _ => h⟩

/-- 'stand', as a step of joining. -/
theorem stand_join {σ : Store} {l lm : Nat} {n : Int} {m : Mp} (h : σ l = bookO n lm) (hm : σ lm = mpO m) (hb : Bk n m) (π : Toks) {v : Int} {t : Ty} (ht : Gd n t) (hv : m v = none) (h0 : 0 ≤ v) (h1 : v < n)
    (hl : t.kind ≠ 5 ∨ t.num ≠ v ∧ ∃ x, m t.num = some x ∧ x.kind ≠ 5) {x y : Ty} (he : ∀ τ, Sol m τ → (x.sub τ = y.sub τ ↔ τ v = t.sub τ)) :
    ACalls Try.prog 33 [.ref l 0, vI v, t.v] σ π (JR σ lm π n m x y) := by
  refine (stand_calls h hm hb π v t ht).mono fun r σ' π' ⟨b, m', a1, a2, a3, a4, a5⟩ => ⟨b, m', a1, a2, a3, fun e => ?_, fun e τ hs e2 => ?_⟩
  · obtain ⟨b1, b2⟩ := a4 e
    subst b1
    obtain ⟨c1, c2⟩ := hb.stand hv h0 h1 ht b2 (fun hk => .inr (hl.resolve_left (fun hh => hh hk)).2)
    refine ⟨c1, .inr (mu_lt h0 h1 ?_), fun τ => ?_⟩
    · rw [hv]; unfold wt; simp only []; split <;> omega
    · rw [c2 τ]
      exact ⟨fun ⟨hs, e⟩ => ⟨hs, (he τ hs).2 e⟩, fun ⟨hs, e⟩ => ⟨hs, (he τ hs).1 e⟩⟩
  · have hr := a5 e
    have e3 := (he τ hs).1 e2
    rcases hl with hk | ⟨hne, z, hz, hkz⟩
    · have := hr.size_lt hs hk
      rw [e3] at this
      exact absurd this (Nat.lt_irrefl _)
    · obtain ⟨k, w, ks⟩ := t
      by_cases hk : k = 5
      · subst hk
        rcases hr.of_var with e4 | ⟨u, hu, hr⟩
        · exact hne e4.symm
        · have hz : m w = some z := hz
          rw [hz] at hu; cases hu
          have := hr.size_lt hs hkz
          rw [Ty.sub_var] at e3
          rw [← hs w z hz, ← e3] at this
          exact absurd this (Nat.lt_irrefl _)
      · have := hr.size_lt hs hk
        rw [e3] at this
        exact absurd this (Nat.lt_irrefl _)

theorem link_calls {n : Int} {m : Mp} (hb : Bk n m) (IH : ∀ m', Bk n m' → mu m' n.toNat < mu m n.toNat → JSpec n m') {σ : Store} {l lm : Nat} (h : σ l = bookO n lm) (hm : σ lm = mpO m) (π : Toks) {x y : Int} (hne : x ≠ y)
    (hx0 : 0 ≤ x) (hx1 : x < n) (hy0 : 0 ≤ y) (hy1 : y < n) (hx : ∀ t, m x = some t → t.kind ≠ 5) (hy : ∀ t, m y = some t → t.kind ≠ 5) :
    ACalls Try.prog 31 [.ref l 0, vI x, vI y] σ π (JR σ lm π n m (tv x) (tv y)) := by
  obtain ⟨ρ, hρ⟩ := hb.rank
  refine acalls_of [38, 44] mixed Try.func31 rfl (by kernel_rfl) (by kernel_rfl) ?_
  conv => whnf
  refine ⟨_, h, _, rfl, ?_⟩
  conv => whnf
  cases ex : m x with
  | none =>
    refine ⟨_, hm, _, lk_none ex, ?_⟩
    conv => whnf
    refine ⟨_, h, _, rfl, ?_⟩
    conv => whnf
    cases ey : m y with
    | none =>
      refine ⟨_, hm, _, lk_none ey, ?_⟩
      conv => whnf
      refine ⟨_, h, _, rfl, ?_⟩
      conv => whnf
      refine (linkv_calls (if y < x then y else x)).use ?_
      conv => whnf
      refine ⟨And.intro h trivial, ?_⟩
      conv => whnf
      refine ⟨_, hm, ?_⟩
      conv => whnf
      refine ⟨trivial, ?_⟩
      conv => whnf
      refine ⟨upd σ lm (mpO (mset m (if y > x then y else x) (tv (if y < x then y else x)))), _, ?_, fun _ _ h => h, true, _, rfl, rfl, rfl, fun _ => ?_, fun e => (by cases e)⟩
      · refine fun l' o h => ?_
        rw [← mset_obj] at h
        exact h
      · obtain ⟨a, b, hab, ha, hb0, hb1, ea, eb, hτ⟩ : ∃ a b : Int, b < a ∧ m a = none ∧ 0 ≤ b ∧ a < n ∧ (if y > x then y else x) = a ∧ (if y < x then y else x) = b ∧ ∀ τ : Int → Ty, τ x = τ y ↔ τ a = τ b := by
          rcases Int.lt_or_gt_of_ne hne with hh | hh
          · exact ⟨y, x, hh, ey, hx0, hy1, if_pos hh, if_neg (by omega), fun τ => eq_comm⟩
          · exact ⟨x, y, hh, ex, hy0, hx1, if_neg (by omega), if_pos hh, fun τ => Iff.rfl⟩
        rw [ea, eb]
        have eb' : m b = none := by
          by_cases e : y < x
          · rw [if_pos e] at eb; rw [← eb]; exact ey
          · rw [if_neg e] at eb; rw [← eb]; exact ex
        obtain ⟨c1, c2⟩ := hb.stand (t := tv b) ha (by omega) hb1 (.tv hb.n1 hb0 (by omega)) (fun hr => by
          rcases hr.of_var with e | ⟨u, hu, _⟩
          · omega
          · rw [eb'] at hu; cases hu) (fun _ => .inl hab)
        refine ⟨c1, .inr (mu_lt (by omega) hb1 (by rw [ha]; simp [wt, Ty.kind])), fun τ => ?_⟩
        rw [c2 τ, Ty.sub_var, Ty.sub_var, Ty.sub_var, hτ]
    | some ot =>
      obtain ⟨ok, ow, os⟩ := ot
      refine ⟨_, hm, _, lk_some ey, ?_⟩
      conv => whnf
      refine (linkv_calls y).use ?_
      conv => whnf
      refine (stand_join (x := tv x) (y := tv y) h hm hb π (.tv hb.n1 hy0 hy1) ex hx0 hx1 (.inr ⟨fun e => hne e.symm, _, ey, hy _ ey⟩) fun τ _ => ?_).mono fun r σ' π' ⟨b, m', a1, a2, a3, a4⟩ => ?_
      · rw [Ty.sub_var, Ty.sub_var]
      · subst a1; subst a2; subst a3
        conv => whnf
        exact ⟨_, _, fun _ _ h => h, fun _ _ h => h, b, m', rfl, rfl, rfl, a4⟩
  | some to =>
    obtain ⟨tk, tw, ts⟩ := to
    refine ⟨_, hm, _, lk_some ex, ?_⟩
    conv => whnf
    refine ⟨_, h, _, rfl, ?_⟩
    conv => whnf
    cases ey : m y with
    | none =>
      refine ⟨_, hm, _, lk_none ey, ?_⟩
      conv => whnf
      refine (linkv_calls x).use ?_
      conv => whnf
      refine (stand_join (x := tv x) (y := tv y) h hm hb π (.tv hb.n1 hx0 hx1) ey hy0 hy1 (.inr ⟨hne, _, ex, hx _ ex⟩) fun τ _ => ?_).mono fun r σ' π' ⟨b, m', a1, a2, a3, a4⟩ => ?_
      · rw [Ty.sub_var, Ty.sub_var]; exact eq_comm
      · subst a1; subst a2; subst a3
        conv => whnf
        exact ⟨_, _, fun _ _ h => h, fun _ _ h => h, b, m', rfl, rfl, rfl, a4⟩
    | some ot =>
      obtain ⟨ok, ow, os⟩ := ot
      refine ⟨_, hm, _, lk_some ey, ?_⟩
      conv => whnf
      intro lq hlq
      conv => whnf
      have hlq : σ lq = none := hlq
      have h1 := none_ne hlq h
      have h2 := none_ne hlq hm
      have hgx := (hb.ok _ _ ex).2.2
      have hgy := (hb.ok _ _ ey).2.2
      refine (in_calls h hm hb h1 h2 π x hρ _ (.mk ok ow os) (Ty.bound ρ _).choose_spec hgy (fun _ => false) (fun w e => by cases e)).mono fun r σ1 π1 ⟨b, q1, a1, a2, a3, a4⟩ => ?_
      subst a1; subst a2; subst a3
      have hs1 : upd σ lq (bpO q1) l = bookO n lm := (upd_ne _ _ h1.symm).trans h
      have hs2 : upd σ lq (bpO q1) lm = mpO m := (upd_ne _ _ h2.symm).trans hm
      conv => whnf
      cases b
      · conv => whnf
        intro lr hlr
        conv => whnf
        have hlr : upd σ lq (bpO q1) lr = none := hlr
        have h3 := none_ne hlr hs1
        have h4 := none_ne hlr hs2
        refine (in_calls hs1 hs2 hb h3 h4 π1 y hρ _ (.mk tk tw ts) (Ty.bound ρ _).choose_spec hgx (fun _ => false) (fun w e => by cases e)).mono fun r σ2 π2 ⟨b, q2, b1, b2, b3, b4⟩ => ?_
        subst b1; subst b2; subst b3
        have ht1 : upd (upd σ lq (bpO q1)) lr (bpO q2) l = bookO n lm := (upd_ne _ _ h3.symm).trans hs1
        have ht2 : upd (upd σ lq (bpO q1)) lr (bpO q2) lm = mpO m := (upd_ne _ _ h4.symm).trans hs2
        conv => whnf
        cases b
        · conv => whnf
          refine ⟨_, ht1, _, rfl, ?_⟩
          conv => whnf
          refine (linkv_calls y).use ?_
          conv => whnf
          refine ⟨And.intro ht1 trivial, ?_⟩
          conv => whnf
          refine ⟨_, ht2, ?_⟩
          conv => whnf
          refine ⟨trivial, ?_⟩
          conv => whnf
          have hL := hb.link ex ey hne (hy _ ey) (a4.2 rfl).1
          have hmu : mu (mset m x (tv y)) n.toNat < mu m n.toNat := mu_lt hx0 hx1 (by rw [ex]; show 0 < (if (Ty.mk tk tw ts).kind = 5 then 0 else 1); rw [if_neg (hx _ ex)]; omega)
          have hln : l ≠ lm := fun e => by subst e; rw [h] at hm; cases hm
          have key := IH (mset m x (tv y)) hL.1 hmu (upd (upd (upd σ lq (bpO q1)) lr (bpO q2)) lm (mpO (mset m x (tv y)))) π2 l lm (.mk tk tw ts) (.mk ok ow os) ((upd_ne _ _ hln).trans ht1) (upd_same ..) hgx hgy
          rw [← mset_obj] at key
          refine key.mono fun r σ3 π3 ⟨b, m', d1, d2, d3, d4⟩ => ?_
          rw [upd_upd] at d2
          subst d1; subst d2; subst d3
          conv => whnf
          refine ⟨upd σ lm (mpO m'), _, fun l' o h' => keep1 hlr l' o (keep1 hlq l' o h'), fun _ _ h => h, b, m', rfl, rfl, rfl, fun e => ?_, fun e τ hs he => ?_⟩
          · have d5 := d4.1 e
            refine ⟨d5.1, .inr ?_, fun τ => ?_⟩
            · rcases d5.2.1 with e1 | e1
              · rw [e1]; exact hmu
              · exact Nat.lt_trans e1 hmu
            · rw [d5.2.2 τ, hL.2 τ, Ty.sub_var, Ty.sub_var]
          · rw [Ty.sub_var, Ty.sub_var] at he
            have d6 := (hL.2 τ).2 ⟨hs, he⟩
            exact d4.2 e τ d6.1 d6.2
        · conv => whnf
          refine ⟨upd σ lm (mpO m), _, ?_, fun _ _ h => h, false, m, rfl, rfl, rfl, .no fun τ hs e => ?_⟩
          · have k1 := keep0 (x := bpO q2) hs2 hlr
            have k2 := keep0 (x := bpO q1) hm hlq
            exact fun l' o h' => k1 l' o (by rw [upd_self hs2]; exact k2 l' o h')
          · have hr := (b4.1 rfl).size_lt hs (hx _ ex)
            rw [← hs x _ ex] at hr
            rw [Ty.sub_var, Ty.sub_var] at e
            rw [e] at hr
            exact Nat.lt_irrefl _ hr
      · conv => whnf
        refine ⟨upd σ lm (mpO m), _, keep0 hm hlq, fun _ _ h => h, false, m, rfl, rfl, rfl, .no fun τ hs e => ?_⟩
        have hr := (a4.1 rfl).size_lt hs (hy _ ey)
        rw [← hs y _ ey] at hr
        rw [Ty.sub_var, Ty.sub_var] at e
        rw [e] at hr
        exact Nat.lt_irrefl _ hr
end Go.Lf
