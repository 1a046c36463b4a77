/- The book, walked: join makes two types the same, just if they can be. -/
import Derived.Test.YtmdjomilicoobaaUo1
namespace Go.Lf
open Go Go.Proofs
set_option maxRecDepth 10000
set_option maxHeartbeats 2000000

theorem JPost.congr {n : Int} {m m' : Mp} {x y x' y' : Ty} {b : Bool} (h : ∀ τ, Sol m τ → (x.sub τ = y.sub τ ↔ x'.sub τ = y'.sub τ)) (hp : JPost n m x' y' b m') : JPost n m x y b m' :=
  ⟨fun e => ⟨(hp.1 e).1, (hp.1 e).2.1, fun τ => by rw [(hp.1 e).2.2 τ]; exact ⟨fun ⟨h1, h2⟩ => ⟨h1, (h τ h1).2 h2⟩, fun ⟨h1, h2⟩ => ⟨h1, (h τ h1).1 h2⟩⟩⟩, fun e τ hs he => hp.2 e τ hs ((h τ hs).1 he)⟩

theorem JPost.same {n : Int} {m : Mp} (hb : Bk n m) {x y : Ty} (h : ∀ τ, Sol m τ → x.sub τ = y.sub τ) : JPost n m x y true m :=
  ⟨fun _ => ⟨hb, .inl rfl, fun τ => ⟨fun hs => ⟨hs, h τ hs⟩, fun hs => hs.1⟩⟩, fun e => (by cases e)⟩

theorem Root.self {m : Mp} {t u y : Ty} (h : Root m t u) (h' : Root m u y) : y = u := by
  cases h'.links with
  | refl => rfl
  | step hx hk _ => exact absurd hk (h.stop rfl _ hx)

/-- What a root stands for, if for anything. -/
def Hd (m : Mp) (u a : Ty) : Prop := a = u ∧ (u.kind = 5 → m u.num = none) ∨ u.kind = 5 ∧ m u.num = some a

theorem Hd.sub {m : Mp} {u a : Ty} (h : Hd m u a) {τ : Int → Ty} (hs : Sol m τ) : u.sub τ = a.sub τ := by
  rcases h with ⟨rfl, _⟩ | ⟨hk, hx⟩
  · rfl
  · obtain ⟨k, w, ks⟩ := u
    have hk : k = 5 := hk
    subst hk
    rw [Ty.sub_var]; exact hs w a hx

theorem Hd.gd {n : Int} {m : Mp} (hb : Bk n m) {u a : Ty} (h : Hd m u a) (hu : Gd n u) : Gd n a := by
  rcases h with ⟨rfl, _⟩ | ⟨_, hx⟩
  · exact hu
  · exact (hb.ok _ _ hx).2.2

theorem Hd.var {m : Mp} {t u a : Ty} (hr : Root m t u) (h : Hd m u a) (hk : a.kind = 5) : a = u ∧ m a.num = none := by
  rcases h with ⟨rfl, h⟩ | ⟨hk', hx⟩
  · exact ⟨rfl, h hk⟩
  · exact absurd hk (hr.stop hk' _ hx)

theorem Hd.none {m : Mp} {u a : Ty} (h : Hd m u a) (hk : u.kind ≠ 5) : a = u := by
  rcases h with ⟨rfl, _⟩ | ⟨hk', _⟩
  · rfl
  · exact absurd hk' hk

theorem Ty.sub_eq {k n : Int} {al cl : List Ty} (hk : k ≠ 5) (hl : al.length = cl.length) (τ : Int → Ty) :
    (Ty.mk k n al).sub τ = (Ty.mk k n cl).sub τ ↔ ∀ (j : Nat) (t u : Ty), al[j]? = some t → cl[j]? = some u → t.sub τ = u.sub τ := by
  rw [Ty.sub_mk τ hk, Ty.sub_mk τ hk]
  constructor
  · intro h j t u ht hu
    injection h with _ _ h
    have h1 : (al.map (Ty.sub τ))[j]? = some (t.sub τ) := by simp [ht]
    rw [h] at h1
    simp [hu] at h1
    exact h1.symm
  · intro h
    congr 1
    apply List.ext_getElem?
    intro j
    rw [List.getElem?_map, List.getElem?_map]
    cases ha : al[j]? with
    | none =>
      have : cl[j]? = none := by rw [List.getElem?_eq_none_iff] at ha ⊢; omega
      rw [this]
    | some t =>
      have hj := (List.getElem?_eq_some_iff.1 ha).1
      obtain ⟨u, hu⟩ : ∃ u, cl[j]? = some u := ⟨cl[j]'(by omega), by simp [hl ▸ hj]⟩
      rw [hu]
      exact congrArg some (h j t u ha hu)

theorem join_run {n : Int} {m : Mp} (hb : Bk n m) (IH : ∀ m', Bk n m' → mu m' n.toNat < mu m n.toNat → JSpec n m') {s : Int → Ty} (hsn : Sn m s) (x y : Ty)
    (ih : ∀ x' y' : Ty, (x'.sub s).size < (x.sub s).size → ∀ (σ : Store) (π : Toks) (l lm : Nat), σ l = bookO n lm → σ lm = mpO m → Gd n x' → Gd n y' → ACalls Try.prog 23 [.ref l 0, x'.v, y'.v] σ π (JR σ lm π n m x' y'))
    {σ : Store} {l lm : Nat} (h : σ l = bookO n lm) (hm : σ lm = mpO m) (π : Toks) (hgx : Gd n x) (hgy : Gd n y) : ACalls Try.prog 23 [.ref l 0, x.v, y.v] σ π (JR σ lm π n m x y) := by
  obtain ⟨xk, xw, xs⟩ := x
  obtain ⟨yk, yw, ys⟩ := y
  have hln : l ≠ lm := fun e => by subst e; rw [h] at hm; cases hm
  refine acalls_aw Try.func23 rfl (by kernel_rfl) (by kernel_rfl) ?_
  refine AW.cut [] mixed 3 (ι := { p : (Int × Int × List Ty) × (Int × Int × List Ty) // Root m (.mk xk xw xs) (.mk p.1.1 p.1.2.1 p.1.2.2) ∧ Root m (.mk yk yw ys) (.mk p.2.1 p.2.2.1 p.2.2.2) ∧ ¬ (p.1.1 = 5 ∧ p.2.1 = 5) })
    (fun p => { T := tOf [(0, tV (.ref l 0)), (4, .lref 4 0), (5, .lref 5 0), (6, tV (vB false))], L := lOf [(4, [(vU8 p.1.1.1, .no), (vI p.1.1.2.1, .no), (.sl (Ty.vs p.1.1.2.2), .no)]), (5, [(vU8 p.1.2.1, .no), (vI p.1.2.2.1, .no), (.sl (Ty.vs p.1.2.2.2), .no)])], σ := σ, π := π }) ?_ ?_
  · conv => whnf
    refine (root_calls h hm hb π (.mk xk xw xs)).mono fun r σ1 π1 ⟨⟨⟨uk, uw, us⟩, a1, a2⟩, a3, a4⟩ => ?_
    subst a1; subst a3; subst a4
    conv => whnf
    refine ⟨trivial, ?_⟩
    conv => whnf
    refine (root_calls h hm hb π1 (.mk yk yw ys)).mono fun r σ2 π2 ⟨⟨⟨vk, vw, vs⟩, b1, b2⟩, b3, b4⟩ => ?_
    subst b1; subst b3; subst b4
    conv => whnf
    refine ⟨trivial, ?_⟩
    conv => whnf
    refine ⟨trivial, ?_⟩
    conv => whnf
    refine ⟨trivial, ?_⟩
    conv => whnf
    have hg1 := a2.links.gd hb hgx
    have hg2 := b2.links.gd hb hgy
    cases h1 : (uk == 5)
    · conv => whnf
      refine ⟨⟨⟨⟨uk, uw, us⟩, ⟨vk, vw, vs⟩⟩, a2, b2, fun hh => ?_⟩, le_of ⟨.rfl, .rfl, .rfl, .rfl, trivial⟩ ⟨⟨_, rfl, .rfl⟩, ⟨_, rfl, .rfl⟩, trivial⟩ rfl (fun _ _ h => h) (fun _ _ h => h)⟩
      simp at h1; exact h1 hh.1
    · simp at h1; subst h1
      conv => whnf
      cases h2 : (vk == 5)
      · conv => whnf
        refine ⟨⟨⟨⟨5, uw, us⟩, ⟨vk, vw, vs⟩⟩, a2, b2, fun hh => ?_⟩, le_of ⟨.rfl, .rfl, .rfl, .rfl, trivial⟩ ⟨⟨_, rfl, .rfl⟩, ⟨_, rfl, .rfl⟩, trivial⟩ rfl (fun _ _ h => h) (fun _ _ h => h)⟩
        simp at h2; exact h2 hh.2
      · simp at h2; subst h2
        conv => whnf
        cases h3 : (uw == vw)
        · simp at h3
          conv => whnf
          refine (link_calls hb IH h hm π2 h3 hg1.var.2.1 hg1.var.2.2 hg2.var.2.1 hg2.var.2.2 (a2.stop rfl) (b2.stop rfl)).mono fun r σ' π' ⟨b, m', c1, c2, c3, c4⟩ => ?_
          subst c1; subst c2; subst c3
          conv => whnf
          refine ⟨_, _, fun _ _ h => h, fun _ _ h => h, b, m', rfl, rfl, rfl, c4.congr fun τ hs => ?_⟩
          rw [a2.links.sub hs, b2.links.sub hs, Ty.sub_var, Ty.sub_var, Ty.sub_var, Ty.sub_var]
        · simp at h3; subst h3
          conv => whnf
          refine ⟨upd σ2 lm (mpO m), _, ?_, fun _ _ h => h, true, m, rfl, rfl, rfl, .same hb fun τ hs => ?_⟩
          · rw [upd_self hm]; exact fun _ _ h => h
          · rw [a2.links.sub hs, b2.links.sub hs, Ty.sub_var, Ty.sub_var]
  rintro ⟨⟨⟨uk, uw, us⟩, ⟨vk, vw, vs⟩⟩, a2, b2, hnv⟩
  dsimp only at a2 b2 hnv
  have hg1 := a2.links.gd hb hgx
  have hg2 := b2.links.gd hb hgy
  refine AW.cut [] mixed 1 (ι := { p : (Int × Int × List Ty) × (Int × Int × List Ty) // Hd m (.mk uk uw us) (.mk p.1.1 p.1.2.1 p.1.2.2) ∧ Hd m (.mk vk vw vs) (.mk p.2.1 p.2.2.1 p.2.2.2) })
    (fun p => { T := tOf [(0, tV (.ref l 0)), (7, .lref 7 0), (8, .lref 8 0), (6, tV (vB false))], L := lOf [(7, [(vU8 p.1.1.1, .no), (vI p.1.1.2.1, .no), (.sl (Ty.vs p.1.1.2.2), .no)]), (8, [(vU8 p.1.2.1, .no), (vI p.1.2.2.1, .no), (.sl (Ty.vs p.1.2.2.2), .no)])], σ := σ, π := π }) ?_ ?_
  · conv => whnf
    repeat' (first
      | (refine ⟨trivial, ?_⟩; conv => whnf)
      | (refine (head_calls h hm hb _ (.mk uk uw us)).mono fun r σ1 π1 ⟨⟨⟨ak, aw, al⟩, ya, a3, a4, a5⟩, a6, a7⟩ => ?_
         subst a3; subst a6; subst a7
         cases a2.self a4
         conv => whnf)
      | (refine (head_calls h hm hb _ (.mk vk vw vs)).mono fun r σ2 π2 ⟨⟨⟨ck, cw, cl⟩, yc, c3, c4, c5⟩, c6, c7⟩ => ?_
         subst c3; subst c6; subst c7
         cases b2.self c4
         conv => whnf)
      | exact ⟨⟨⟨⟨ak, aw, al⟩, ⟨ck, cw, cl⟩⟩, a5, c5⟩, le_of ⟨.rfl, .rfl, .rfl, .rfl, trivial⟩ ⟨⟨_, rfl, .rfl⟩, ⟨_, rfl, .rfl⟩, trivial⟩ rfl (fun _ _ h => h) (fun _ _ h => h)⟩
      | (refine ⟨?_, ?_⟩ <;> conv => whnf))
  rintro ⟨⟨⟨ak, aw, al⟩, ⟨ck, cw, cl⟩⟩, a5, c5⟩
  dsimp only at a5 c5
  have ga := a5.gd hb hg1
  have gc := c5.gd hb hg2
  have ex : ∀ τ, Sol m τ → (Ty.mk xk xw xs).sub τ = (Ty.mk ak aw al).sub τ := fun τ hs => (a2.links.sub hs).trans (a5.sub hs)
  have ey : ∀ τ, Sol m τ → (Ty.mk yk yw ys).sub τ = (Ty.mk ck cw cl).sub τ := fun τ hs => (b2.links.sub hs).trans (c5.sub hs)
  refine AW.of [] mixed ?_
  conv => whnf
  cases h1 : (ak == 5)
  · simp at h1
    conv => whnf
    cases h2 : (ck == 5)
    · simp at h2
      conv => whnf
      cases h3 : (ak != ck)
      · simp at h3
        subst h3
        have hl : al.length = cl.length := by have := (ga.shape h1).2; have := (gc.shape h1).2; omega
        have e0 : aw = cw := (ga.shape h1).1.trans (gc.shape h1).1.symm
        subst e0
        have hlen : al.length ≤ 2 ^ 47 := by cases ga.ok with | mk _ _ hl _ => exact hl
        have eq := Ty.sub_eq (n := aw) h1 hl
        conv => whnf
        refine ⟨{ p : Nat × Mp // p.1 ≤ al.length ∧ Bk n p.2 ∧ (p.2 = m ∨ mu p.2 n.toNat < mu m n.toNat) ∧ ∀ τ, Sol p.2 τ ↔ Sol m τ ∧ ∀ (j : Nat) (t u : Ty), j < p.1 → al[j]? = some t → cl[j]? = some u → t.sub τ = u.sub τ },
          fun p => { T := tOf [(0, tV (.ref l 0)), (7, .lref 7 0), (8, .lref 8 0), (69, tV (vI (Ty.vs al).length)), (70, tV (vI p.1.1))], L := lOf [(7, [(vU8 ak, .no), (vI aw, .no), (.sl (Ty.vs al), .no)]), (8, [(vU8 ak, .no), (vI aw, .no), (.sl (Ty.vs cl), .no)])], σ := upd σ lm (mpO p.1.2), π := π }, fun p => al.length - p.1.1, ⟨⟨(0, m), Nat.zero_le _, hb, .inl rfl, fun τ => ⟨fun hs => ⟨hs, fun j t u hj => absurd hj (Nat.not_lt_zero _)⟩, fun hs => hs.1⟩⟩, ?_⟩, ?_⟩
        · refine le_of ⟨.rfl, .rfl, .rfl, .rfl, .rfl, trivial⟩ ⟨⟨_, rfl, .rfl⟩, ⟨_, rfl, .rfl⟩, trivial⟩ rfl ?_ (fun _ _ h => h)
          rw [upd_self hm]; exact fun _ _ h => h
        · rintro ⟨⟨i, m1⟩, hi, hb1, hmu, hsol⟩
          dsimp only at hi hb1 hmu hsol
          conv => whnf
          rw [Ty.vs_length]
          cases h5 : decide ((i : Int) < (al.length : Int))
          · simp at h5
            conv => whnf
            refine ⟨_, _, fun _ _ h => h, fun _ _ h => h, true, m1, rfl, rfl, rfl, fun _ => ⟨hb1, hmu, fun τ => ?_⟩, fun e => (by cases e)⟩
            rw [hsol τ]
            constructor
            · rintro ⟨hs, hk⟩
              refine ⟨hs, ?_⟩
              rw [ex τ hs, ey τ hs, eq τ]
              exact fun j t u ht hu => hk j t u (by have := (List.getElem?_eq_some_iff.1 ht).1; omega) ht hu
            · rintro ⟨hs, hk⟩
              rw [ex τ hs, ey τ hs, eq τ] at hk
              exact ⟨hs, fun j t u _ ht hu => hk j t u ht hu⟩
          · simp at h5
            obtain ⟨tk, tn, ts, ht⟩ := Ty.at h5
            obtain ⟨dk, dn, ds, hu⟩ := Ty.at (ks := cl) (i := i) (by omega)
            have hmt := List.mem_of_getElem? ht
            have hmu' := List.mem_of_getElem? hu
            conv => whnf
            refine ⟨Ty.v (.mk tk tn ts), ⟨by omega, Ty.vs_get ht, rfl⟩, ?_⟩
            conv => whnf
            refine ⟨Ty.v (.mk dk dn ds), ⟨by omega, Ty.vs_get hu, rfl⟩, ?_⟩
            conv => whnf
            have key : ACalls Try.prog 23 [.ref l 0, (Ty.mk tk tn ts).v, (Ty.mk dk dn ds).v] (upd σ lm (mpO m1)) π (JR (upd σ lm (mpO m1)) lm π n m1 (.mk tk tn ts) (.mk dk dn ds)) := by
              have hs1 : upd σ lm (mpO m1) l = bookO n lm := (upd_ne _ _ hln).trans h
              rcases hmu with e | e
              · subst e
                refine ih _ _ ?_ _ π l lm hs1 (upd_same ..) (ga.kid hmt) (gc.kid hmu')
                rw [ex s hsn.sol, Ty.sub_mk s h1, Ty.size]
                have := Ty.sizes_mem (List.mem_map_of_mem (f := Ty.sub s) hmt)
                omega
              · exact IH m1 hb1 e _ π l lm _ _ hs1 (upd_same ..) (ga.kid hmt) (gc.kid hmu')
            refine key.mono fun r σ3 π3 ⟨b, m2, d1, d2, d3, d4⟩ => ?_
            rw [upd_upd] at d2
            subst d1; subst d2; subst d3
            conv => whnf
            refine ⟨trivial, ?_⟩
            conv => whnf
            cases b
            · conv => whnf
              refine ⟨_, _, fun _ _ h => h, fun _ _ h => h, false, m2, rfl, rfl, rfl, .no fun τ hs he => ?_⟩
              rw [ex τ hs, ey τ hs, eq τ] at he
              exact d4.2 rfl τ ((hsol τ).2 ⟨hs, fun j t u _ => he j t u⟩) (he i _ _ ht hu)
            · conv => whnf
              obtain ⟨q1, q2, q3⟩ := d4.1 rfl
              refine ⟨⟨(i + 1, m2), h5, q1, ?_, fun τ => ?_⟩, le_of ⟨.rfl, .rfl, .rfl, .rfl, .succ h5 hlen, trivial⟩ ⟨⟨_, rfl, .rfl⟩, ⟨_, rfl, .rfl⟩, trivial⟩ rfl (fun _ _ h => h) (fun _ _ h => h), by show al.length - (i + 1) < al.length - i; omega⟩
              · show m2 = m ∨ mu m2 n.toNat < mu m n.toNat
                rcases q2 with e | e
                · rw [e]; exact hmu
                · rcases hmu with e2 | e2
                  · rw [e2] at e; exact .inr e
                  · exact .inr (Nat.lt_trans e e2)
              · show Sol m2 τ ↔ _
                rw [q3 τ, hsol τ]
                constructor
                · rintro ⟨⟨g1, g2⟩, g3⟩
                  refine ⟨g1, fun j t u hj ht' hu' => ?_⟩
                  by_cases e : j = i
                  · subst e; rw [ht] at ht'; rw [hu] at hu'; cases ht'; cases hu'; exact g3
                  · exact g2 j t u (by have : j < i + 1 := hj; omega) ht' hu'
                · rintro ⟨g1, g2⟩
                  exact ⟨⟨g1, fun j t u hj => g2 j t u (by show j < i + 1; omega)⟩, g2 i _ _ (by show i < i + 1; omega) ht hu⟩
      · simp at h3
        conv => whnf
        refine ⟨upd σ lm (mpO m), _, ?_, fun _ _ h => h, false, m, rfl, rfl, rfl, .no fun τ hs he => ?_⟩
        · rw [upd_self hm]; exact fun _ _ h => h
        · rw [ex τ hs, ey τ hs, Ty.sub_mk τ h1, Ty.sub_mk τ h2] at he
          injection he with he _ _
          exact h3 he
    · simp at h2
      subst h2
      conv => whnf
      obtain ⟨e1, e2⟩ := c5.var b2 rfl
      cases e1
      have e3 := a5.none (fun e => hnv ⟨e, rfl⟩)
      cases e3
      refine (stand_join (x := .mk xk xw xs) (y := .mk yk yw ys) h hm hb π ga e2 gc.var.2.1 gc.var.2.2 (.inl h1) fun τ hs => ?_).mono fun r σ' π' ⟨b, m', c1, c2, c3, c4⟩ => ?_
      · rw [ex τ hs, ey τ hs, Ty.sub_var]; exact eq_comm
      · subst c1; subst c2; subst c3
        conv => whnf
        exact ⟨_, _, fun _ _ h => h, fun _ _ h => h, b, m', rfl, rfl, rfl, c4⟩
  · simp at h1
    subst h1
    conv => whnf
    obtain ⟨e1, e2⟩ := a5.var a2 rfl
    cases e1
    have h2 : ¬ vk = 5 := fun e => hnv ⟨rfl, e⟩
    have e3 := c5.none h2
    cases e3
    refine (stand_join (x := .mk xk xw xs) (y := .mk yk yw ys) h hm hb π gc e2 ga.var.2.1 ga.var.2.2 (.inl h2) fun τ hs => ?_).mono fun r σ' π' ⟨b, m', c1, c2, c3, c4⟩ => ?_
    · rw [ex τ hs, ey τ hs, Ty.sub_var]; exact Iff.rfl
    · subst c1; subst c2; subst c3
      conv => whnf
      exact ⟨_, _, fun _ _ h => h, fun _ _ h => h, b, m', rfl, rfl, rfl, c4⟩

/-- join, of any book in order. -/
theorem join_calls {n : Int} : ∀ (k : Nat) (m : Mp), mu m n.toNat = k → Bk n m → JSpec n m := by
  intro k
  induction k using Nat.strongRecOn with
  | _ k ihk =>
    intro m hk hb
    obtain ⟨ρ, hρ⟩ := hb.rank
    obtain ⟨s, hsn⟩ := hρ.sense
    have key : ∀ (K : Nat) (x y : Ty), (x.sub s).size = K → ∀ (σ : Store) (π : Toks) (l lm : Nat), σ l = bookO n lm → σ lm = mpO m → Gd n x → Gd n y → ACalls Try.prog 23 [.ref l 0, x.v, y.v] σ π (JR σ lm π n m x y) := by
      intro K
      induction K using Nat.strongRecOn with
      | _ K ihK =>
        intro x y hK σ π l lm h hm hx hy
        exact join_run hb (fun m' hb' hlt => ihk _ (by rw [← hk]; exact hlt) m' rfl hb') hsn x y (fun x' y' hlt => ihK _ (by rw [← hK]; exact hlt) x' y' rfl) h hm π hx hy
    exact fun σ π l lm x y => key _ x y rfl σ π l lm
end Go.Lf
