/- The statement of layer 9 on types that are made the same again, walked: it is true. -/
import Derived.Test.YtmdjomilicoobaaUq2
namespace Go.Lf
open Go Go.Proofs
set_option maxRecDepth 10000
set_option maxHeartbeats 4000000

theorem again_calls (n k : Int) (hn0 : 0 ≤ n) (hn1 : n ≤ 255) (hk0 : 0 ≤ k) (hk1 : k ≤ 255) (ts : List Ty) (hts : ∀ t ∈ ts, t.Ok) : PCall Try.prog 6 [vU8 n, .sl (Ty.vs ts), vU8 k] (vB true) := by
  intro σ π
  refine acalls_aw Try.func6 rfl (by kernel_rfl) (by kernel_rfl) ?_
  refine AW.cut [] mixed 2 (ι := { _u : Unit // n ≤ 20 ∧ ts.length ≤ 10 }) (fun _ => { T := tOf [(0, tV (vU8 n)), (1, tV (.sl (Ty.vs ts))), (2, tV (vU8 k)), (6, tV (vB false))], L := lOf [], σ := σ, π := π }) ?_ ?_
  · conv => whnf
    cases h1 : decide (n > 20)
    · conv => whnf
      refine (great_calls ts hts).use ?_
      cases h2 : (decide (ts.length > 10) || ts.any tooGreat)
      · conv => whnf
        refine ⟨⟨(), by simp at h1; omega, by simp at h2; omega⟩, le_of ⟨.rfl, .rfl, .rfl, .rfl, trivial⟩ trivial rfl (fun _ _ h => h) (fun _ _ h => h)⟩
      · conv => whnf
        refine awake_calls.use ?_
        conv => whnf
        exact ⟨σ, π, fun _ _ h => h, fun _ _ h => h, congrArg Res.ret (rfl), rfl, rfl⟩
    · conv => whnf
      refine awake_calls.use ?_
      conv => whnf
      exact ⟨σ, π, fun _ _ h => h, fun _ _ h => h, congrArg Res.ret (rfl), rfl, rfl⟩
  rintro ⟨_, hn, hl⟩
  refine AW.cut [] mixed 2 (ι := { p : Store × Nat × Nat // Kept σ p.1 ∧ OwnB σ p.1 p.2.1 p.2.2 n (fun _ => none) }) (fun p => { T := tOf [(0, tV (vU8 n)), (1, tV (.sl (Ty.vs ts))), (2, tV (vU8 k)), (6, tV (vB false)), (7, tV (.ref p.1.2.1 0))], L := lOf [], σ := p.1.1, π := π }) ?_ ?_
  · conv => whnf
    refine (new_calls σ π).mono fun r σ1 π1 ⟨a, am, a1, a2, a3, a4, a5, a6⟩ => ?_
    subst a4; subst a6
    have hA := OwnB.new (σ0 := σ) (fun _ _ h => h) a1 a2 a3 a5
    have hA1 := hA.1
    have hA2 := hA.2.1
    clear hA a5
    conv => whnf
    refine ⟨{ p : Nat × Store // (p.1 : Int) ≤ n ∧ Kept σ p.2 ∧ OwnB σ p.2 a am p.1 (fun _ => none) }, fun p => { T := tOf [(0, tV (vU8 n)), (1, tV (.sl (Ty.vs ts))), (2, tV (vU8 k)), (6, tV (vB false)), (7, tV (.ref a 0)), (8, tV (vI p.1.1))], L := lOf [], σ := p.1.2, π := π1 }, fun p => n.toNat - p.1.1, ⟨⟨(0, σ1), hn0, hA1, hA2⟩, ?_⟩, ?_⟩
    · exact le_of ⟨.rfl, .rfl, .rfl, .rfl, .rfl, .rfl, trivial⟩ trivial rfl (fun _ _ h => h) (fun _ _ h => h)
    · rintro ⟨⟨i, σ3⟩, hi, hK, hT⟩
      dsimp only at hi hT hK
      conv => whnf
      rw [wrap_in (n := n) (by omega) (by omega)]
      cases h5 : decide ((i : Int) < n)
      · simp at h5
        have e : (i : Int) = n := by omega
        rw [e] at hT
        conv => whnf
        exact ⟨⟨⟨σ3, a, am⟩, hK, hT⟩, le_of ⟨.rfl, .rfl, .rfl, .rfl, .rfl, trivial⟩ trivial rfl (fun _ _ h => h) (fun _ _ h => h)⟩
      · simp at h5
        conv => whnf
        refine (fresh_calls hT.bk (by omega) π1).mono fun r σ4 π4 ⟨c1, c2, c3⟩ => ?_
        subst c1; subst c3
        have hT4 := hT.put hK (n' := (i : Int) + 1)
        rw [← c2] at hT4
        conv => whnf
        exact ⟨⟨(i + 1, σ4), by show ((i + 1 : Nat) : Int) ≤ n; omega, hT4.1, hT4.2⟩, le_of ⟨.rfl, .rfl, .rfl, .rfl, .rfl, .succ (n := 2 ^ 30) (show i < 2 ^ 30 by omega) (by omega), trivial⟩ trivial rfl (fun _ _ h => h) (fun _ _ h => h), by show n.toNat - (i + 1) < n.toNat - i; omega⟩
  rintro ⟨⟨σ3, a, am⟩, hK, hT⟩
  dsimp only at hT hK
  refine AW.cut [] mixed 1 (ι := { p : Store × Nat × Mp × (Int → Ty) // Kept σ p.1 ∧ OwnB σ p.1 a p.2.1 n p.2.2.1 ∧ Bk n p.2.2.1 ∧ Sn p.2.2.1 p.2.2.2 ∧ (∀ t ∈ ts, Gd n t) ∧ ∀ τ, Sol p.2.2.1 τ → Alike τ ts }) (fun p => { T := tOf [(1, tV (.sl (Ty.vs ts))), (2, tV (vU8 k)), (6, tV (vB false)), (7, tV (.ref a 0))], L := lOf [], σ := p.1.1, π := π }) ?_ ?_
  · conv => whnf
    refine (Join_calls hT.bk hT.mp (.empty (by omega)) π ts hts (by omega)).mono fun r σ4 π4 ⟨b1, m1, lm1, c1, c2, c3, c4, c5, c6, c7⟩ => ?_
    subst c1; subst c6
    have hJ1 := hT.join hK c2 c3 c4 c5
    cases b1
    · conv => whnf
      refine awake_calls.use ?_
      conv => whnf
      exact ⟨σ, _, hJ1.1, fun _ _ h => h, rfl, rfl, rfl⟩
    · have hp := c7.1 rfl
      refine Exists.elim hp.1.rank fun ρ hρ => Exists.elim hρ.sense fun s hs => ?_
      conv => whnf
      exact ⟨⟨⟨σ4, lm1, m1, s⟩, hJ1.1, hJ1.2.1, hp.1, hs, hp.2.1, fun τ hτ => ((hp.2.2 τ).1 hτ).2⟩, le_of ⟨.rfl, .rfl, .rfl, .rfl, trivial⟩ trivial rfl (fun _ _ h => h) (fun _ _ h => h)⟩
  rintro ⟨⟨σ4, lm1, m1, s⟩, hK4, hT4, hb1, hs1, hg, hal⟩
  dsimp only at hK4 hT4 hb1 hs1 hal
  obtain ⟨v, hv⟩ : ∃ v, v = IntKind.i64.wrap (k.tmod 20) := ⟨_, rfl⟩
  have hvb : 0 ≤ v ∧ v ≤ 2 ^ 47 := by
    have e : k.tmod 20 = k % 20 := Int.tmod_eq_emod_of_nonneg hk0
    have : IntKind.i64.wrap (k % 20) = k % 20 := wrap_in (by omega) (by omega)
    rw [hv, e, this]; omega
  have hsense : ∀ (σ' : Store) (lm' : Nat) (m' : Mp) (π' : Toks), OwnB σ σ' a lm' n m' → Bk n m' → Sn m' s → SCall Try.prog 12 [.ref a 0, (Ty.mk 5 v []).v, vI 2000] σ' π' (senseR ((tv v).may && (tv v).known n) (s v) 2000) := fun σ' lm' m' π' h1 h2 h3 =>
    Sense_var h1.bk h1.mp h2 h3 v hvb.1 hvb.2 (by omega) (by omega) π'
  have hshape := senseR_shape ((tv v).may && (tv v).known n) (s v) 2000 (fun hk => by
    have hkn : 0 ≤ v ∧ v < n := by
      rw [Ty.may_mk, Ty.known_mk] at hk
      simp [nodeMay, kidsN] at hk
      exact hk
    exact (Sn.gd hb1 hs1 hkn.1 hkn.2).ok)
  obtain ⟨xk, xw, xs, e, he, hx1, hx2⟩ := hshape
  rw [hx1] at hsense
  have hsame := same_calls _ (.mk xk xw xs) hx2
  rw [Ty.same_refl] at hsame
  clear hx1
  rw [hv] at hsense
  clear hvb hv
  rcases he with rfl | rfl | rfl
  · refine AW.of [] mixed ?_
    conv => whnf
    refine (law_v (IntKind.i64.wrap (k.tmod 20))).use ?_
    conv => whnf
    refine (hsense σ4 lm1 m1 π hT4 hb1 hs1).use ?_
    conv => whnf
    refine ⟨{ p : Nat × Store × Nat × Mp // p.1 ≤ ts.length ∧ Kept σ p.2.1 ∧ OwnB σ p.2.1 a p.2.2.1 n p.2.2.2 ∧ Bk n p.2.2.2 ∧ Sn p.2.2.2 s ∧ ∀ τ, Sol p.2.2.2 τ ↔ Sol m1 τ }, fun p => { T := tOf [(1, tV (.sl (Ty.vs ts))), (2, tV (vU8 k)), (7, tV (.ref a 0)), (9, .lref 9 0), (10, tV (vI 0)), (11, tV (vI p.1.1))], L := lOf [(9, [(vU8 xk, .no), (vI xw, .no), (.sl (Ty.vs xs), .no)])], σ := p.1.2.1, π := π }, fun p => ts.length - p.1.1, ⟨⟨(0, σ4, lm1, m1), Nat.zero_le _, hK4, hT4, hb1, hs1, fun _ => Iff.rfl⟩, ?_⟩, ?_⟩
    · exact le_of ⟨.rfl, .rfl, .rfl, .rfl, .rfl, .rfl, trivial⟩ ⟨⟨_, rfl, .rfl⟩, trivial⟩ rfl (fun _ _ h => h) (fun _ _ h => h)
    · rintro ⟨⟨i, σ5, lm5, m5⟩, hi, hK5, hT5, hb5, hs5, hsol⟩
      dsimp only at hi hK5 hT5 hb5 hs5 hsol
      conv => whnf
      rw [Ty.vs_length]
      cases h5 : decide (IntKind.i64.wrap ((i : Int) + 1) < (ts.length : Int))
      · conv => whnf
        refine (law_v (IntKind.i64.wrap (k.tmod 20))).use ?_
        conv => whnf
        refine (hsense σ5 lm5 m5 π hT5 hb5 hs5).use ?_
        conv => whnf
        refine hsame.use ?_
        conv => whnf
        refine awake_calls.use ?_
        conv => whnf
        exact ⟨σ, _, hK5, fun _ _ h => h, rfl, rfl, rfl⟩
      · have hi2 : i + 1 < ts.length ∧ IntKind.i64.wrap ((i : Int) + 1) = ((i + 1 : Nat) : Int) := by
          have e := wrap_in (n := (i : Int) + 1) (by omega) (by omega)
          rw [e] at h5 ⊢
          simp at h5
          omega
        have hw := hi2.2
        have hi2 := hi2.1
        obtain ⟨tk, tn, us, ht⟩ := Ty.at hi2
        obtain ⟨dk, dn, ds, hd⟩ := Ty.at (ks := ts) (i := i) (by omega)
        have hg1 := hg _ (List.mem_of_getElem? ht)
        have hg2 := hg _ (List.mem_of_getElem? hd)
        have ht' : ts[(IntKind.i64.wrap ((i : Int) + 1)).toNat]? = some (.mk tk tn us) := by rw [hw]; exact ht
        have hw0 : 0 ≤ IntKind.i64.wrap ((i : Int) + 1) := by rw [hw]; omega
        have hJ := Join_calls hT5.bk hT5.mp hb5 π [.mk tk tn us, .mk dk dn ds] (by simpa using ⟨hg1.ok, hg2.ok⟩) (by simp)
        conv => whnf
        refine ⟨Ty.v (.mk tk tn us), ⟨hw0, Ty.vs_get ht', rfl⟩, ?_⟩
        conv => whnf
        refine ⟨Ty.v (.mk dk dn ds), ⟨by omega, Ty.vs_get hd, rfl⟩, ?_⟩
        conv => whnf
        refine hJ.mono fun r σ6 π6 ⟨b6, m6, lm6, c1, c2, c3, c4, c5, c6, c7⟩ => ?_
        subst c1; subst c6
        have hJ6 := hT5.join hK5 c2 c3 c4 c5
        have hyes : b6 = true := c7.yes (by simpa using ⟨hg1, hg2⟩) hs5.sol (by
          rw [alike_two]
          exact (alike_iff.1 (hal s ((hsol s).1 hs5.sol))) _ (List.mem_of_getElem? ht) _ (List.mem_of_getElem? hd))
        subst hyes
        have hp := c7.1 rfl
        have hsol6 : ∀ τ, Sol m6 τ ↔ Sol m1 τ := fun τ => by
          rw [hp.2.2 τ, hsol τ]
          exact ⟨fun h => h.1, fun h => ⟨h, alike_two.2 ((alike_iff.1 (hal τ h)) _ (List.mem_of_getElem? ht) _ (List.mem_of_getElem? hd))⟩⟩
        have hs6 : Sn m6 s := by
          obtain ⟨ρ, hρ⟩ := hp.1.rank
          obtain ⟨s', hs'⟩ := hρ.sense
          obtain ⟨ρ1, hρ1⟩ := hb1.rank
          have : s' = s := funext fun v => hp.1.tells hs' hρ1 hs1 (hb1.least s hs1) hsol6 v
          rw [← this]; exact hs'
        conv => whnf
        refine ⟨trivial, ?_⟩
        conv => whnf
        exact ⟨⟨(i + 1, σ6, lm6, m6), Nat.le_of_lt hi2, hJ6.1, hJ6.2.1, hp.1, hs6, hsol6⟩, le_of ⟨.rfl, .rfl, .rfl, .rfl, .rfl, .succ (n := 2 ^ 30) (show i < 2 ^ 30 by omega) (by omega), trivial⟩ ⟨⟨_, rfl, .rfl⟩, trivial⟩ rfl (fun _ _ h => h) (fun _ _ h => h), by show ts.length - (i + 1) < ts.length - i; omega⟩
  · refine AW.of [] mixed ?_
    conv => whnf
    refine (law_v (IntKind.i64.wrap (k.tmod 20))).use ?_
    conv => whnf
    refine (hsense σ4 lm1 m1 π hT4 hb1 hs1).use ?_
    conv => whnf
    refine ⟨{ p : Nat × Store × Nat × Mp // p.1 ≤ ts.length ∧ Kept σ p.2.1 ∧ OwnB σ p.2.1 a p.2.2.1 n p.2.2.2 ∧ Bk n p.2.2.2 ∧ Sn p.2.2.2 s ∧ ∀ τ, Sol p.2.2.2 τ ↔ Sol m1 τ }, fun p => { T := tOf [(1, tV (.sl (Ty.vs ts))), (2, tV (vU8 k)), (7, tV (.ref a 0)), (9, .lref 9 0), (10, tV (vI 1)), (11, tV (vI p.1.1))], L := lOf [(9, [(vU8 xk, .no), (vI xw, .no), (.sl (Ty.vs xs), .no)])], σ := p.1.2.1, π := π }, fun p => ts.length - p.1.1, ⟨⟨(0, σ4, lm1, m1), Nat.zero_le _, hK4, hT4, hb1, hs1, fun _ => Iff.rfl⟩, ?_⟩, ?_⟩
    · exact le_of ⟨.rfl, .rfl, .rfl, .rfl, .rfl, .rfl, trivial⟩ ⟨⟨_, rfl, .rfl⟩, trivial⟩ rfl (fun _ _ h => h) (fun _ _ h => h)
    · rintro ⟨⟨i, σ5, lm5, m5⟩, hi, hK5, hT5, hb5, hs5, hsol⟩
      dsimp only at hi hK5 hT5 hb5 hs5 hsol
      conv => whnf
      rw [Ty.vs_length]
      cases h5 : decide (IntKind.i64.wrap ((i : Int) + 1) < (ts.length : Int))
      · conv => whnf
        refine (law_v (IntKind.i64.wrap (k.tmod 20))).use ?_
        conv => whnf
        refine (hsense σ5 lm5 m5 π hT5 hb5 hs5).use ?_
        conv => whnf
        refine hsame.use ?_
        conv => whnf
        refine awake_calls.use ?_
        conv => whnf
        exact ⟨σ, _, hK5, fun _ _ h => h, rfl, rfl, rfl⟩
      · have hi2 : i + 1 < ts.length ∧ IntKind.i64.wrap ((i : Int) + 1) = ((i + 1 : Nat) : Int) := by
          have e := wrap_in (n := (i : Int) + 1) (by omega) (by omega)
          rw [e] at h5 ⊢
          simp at h5
          omega
        have hw := hi2.2
        have hi2 := hi2.1
        obtain ⟨tk, tn, us, ht⟩ := Ty.at hi2
        obtain ⟨dk, dn, ds, hd⟩ := Ty.at (ks := ts) (i := i) (by omega)
        have hg1 := hg _ (List.mem_of_getElem? ht)
        have hg2 := hg _ (List.mem_of_getElem? hd)
        have ht' : ts[(IntKind.i64.wrap ((i : Int) + 1)).toNat]? = some (.mk tk tn us) := by rw [hw]; exact ht
        have hw0 : 0 ≤ IntKind.i64.wrap ((i : Int) + 1) := by rw [hw]; omega
        have hJ := Join_calls hT5.bk hT5.mp hb5 π [.mk tk tn us, .mk dk dn ds] (by simpa using ⟨hg1.ok, hg2.ok⟩) (by simp)
        conv => whnf
        refine ⟨Ty.v (.mk tk tn us), ⟨hw0, Ty.vs_get ht', rfl⟩, ?_⟩
        conv => whnf
        refine ⟨Ty.v (.mk dk dn ds), ⟨by omega, Ty.vs_get hd, rfl⟩, ?_⟩
        conv => whnf
        refine hJ.mono fun r σ6 π6 ⟨b6, m6, lm6, c1, c2, c3, c4, c5, c6, c7⟩ => ?_
        subst c1; subst c6
        have hJ6 := hT5.join hK5 c2 c3 c4 c5
        have hyes : b6 = true := c7.yes (by simpa using ⟨hg1, hg2⟩) hs5.sol (by
          rw [alike_two]
          exact (alike_iff.1 (hal s ((hsol s).1 hs5.sol))) _ (List.mem_of_getElem? ht) _ (List.mem_of_getElem? hd))
        subst hyes
        have hp := c7.1 rfl
        have hsol6 : ∀ τ, Sol m6 τ ↔ Sol m1 τ := fun τ => by
          rw [hp.2.2 τ, hsol τ]
          exact ⟨fun h => h.1, fun h => ⟨h, alike_two.2 ((alike_iff.1 (hal τ h)) _ (List.mem_of_getElem? ht) _ (List.mem_of_getElem? hd))⟩⟩
        have hs6 : Sn m6 s := by
          obtain ⟨ρ, hρ⟩ := hp.1.rank
          obtain ⟨s', hs'⟩ := hρ.sense
          obtain ⟨ρ1, hρ1⟩ := hb1.rank
          have : s' = s := funext fun v => hp.1.tells hs' hρ1 hs1 (hb1.least s hs1) hsol6 v
          rw [← this]; exact hs'
        conv => whnf
        refine ⟨trivial, ?_⟩
        conv => whnf
        exact ⟨⟨(i + 1, σ6, lm6, m6), Nat.le_of_lt hi2, hJ6.1, hJ6.2.1, hp.1, hs6, hsol6⟩, le_of ⟨.rfl, .rfl, .rfl, .rfl, .rfl, .succ (n := 2 ^ 30) (show i < 2 ^ 30 by omega) (by omega), trivial⟩ ⟨⟨_, rfl, .rfl⟩, trivial⟩ rfl (fun _ _ h => h) (fun _ _ h => h), by show ts.length - (i + 1) < ts.length - i; omega⟩
  · refine AW.of [] mixed ?_
    conv => whnf
    refine (law_v (IntKind.i64.wrap (k.tmod 20))).use ?_
    conv => whnf
    refine (hsense σ4 lm1 m1 π hT4 hb1 hs1).use ?_
    conv => whnf
    refine ⟨{ p : Nat × Store × Nat × Mp // p.1 ≤ ts.length ∧ Kept σ p.2.1 ∧ OwnB σ p.2.1 a p.2.2.1 n p.2.2.2 ∧ Bk n p.2.2.2 ∧ Sn p.2.2.2 s ∧ ∀ τ, Sol p.2.2.2 τ ↔ Sol m1 τ }, fun p => { T := tOf [(1, tV (.sl (Ty.vs ts))), (2, tV (vU8 k)), (7, tV (.ref a 0)), (9, .lref 9 0), (10, tV (vI 3)), (11, tV (vI p.1.1))], L := lOf [(9, [(vU8 xk, .no), (vI xw, .no), (.sl (Ty.vs xs), .no)])], σ := p.1.2.1, π := π }, fun p => ts.length - p.1.1, ⟨⟨(0, σ4, lm1, m1), Nat.zero_le _, hK4, hT4, hb1, hs1, fun _ => Iff.rfl⟩, ?_⟩, ?_⟩
    · exact le_of ⟨.rfl, .rfl, .rfl, .rfl, .rfl, .rfl, trivial⟩ ⟨⟨_, rfl, .rfl⟩, trivial⟩ rfl (fun _ _ h => h) (fun _ _ h => h)
    · rintro ⟨⟨i, σ5, lm5, m5⟩, hi, hK5, hT5, hb5, hs5, hsol⟩
      dsimp only at hi hK5 hT5 hb5 hs5 hsol
      conv => whnf
      rw [Ty.vs_length]
      cases h5 : decide (IntKind.i64.wrap ((i : Int) + 1) < (ts.length : Int))
      · conv => whnf
        refine (law_v (IntKind.i64.wrap (k.tmod 20))).use ?_
        conv => whnf
        refine (hsense σ5 lm5 m5 π hT5 hb5 hs5).use ?_
        conv => whnf
        refine hsame.use ?_
        conv => whnf
        refine awake_calls.use ?_
        conv => whnf
        exact ⟨σ, _, hK5, fun _ _ h => h, rfl, rfl, rfl⟩
      · have hi2 : i + 1 < ts.length ∧ IntKind.i64.wrap ((i : Int) + 1) = ((i + 1 : Nat) : Int) := by
          have e := wrap_in (n := (i : Int) + 1) (by omega) (by omega)
          rw [e] at h5 ⊢
          simp at h5
          omega
        have hw := hi2.2
        have hi2 := hi2.1
        obtain ⟨tk, tn, us, ht⟩ := Ty.at hi2
        obtain ⟨dk, dn, ds, hd⟩ := Ty.at (ks := ts) (i := i) (by omega)
        have hg1 := hg _ (List.mem_of_getElem? ht)
        have hg2 := hg _ (List.mem_of_getElem? hd)
        have ht' : ts[(IntKind.i64.wrap ((i : Int) + 1)).toNat]? = some (.mk tk tn us) := by rw [hw]; exact ht
        have hw0 : 0 ≤ IntKind.i64.wrap ((i : Int) + 1) := by rw [hw]; omega
        have hJ := Join_calls hT5.bk hT5.mp hb5 π [.mk tk tn us, .mk dk dn ds] (by simpa using ⟨hg1.ok, hg2.ok⟩) (by simp)
        conv => whnf
        refine ⟨Ty.v (.mk tk tn us), ⟨hw0, Ty.vs_get ht', rfl⟩, ?_⟩
        conv => whnf
        refine ⟨Ty.v (.mk dk dn ds), ⟨by omega, Ty.vs_get hd, rfl⟩, ?_⟩
        conv => whnf
        refine hJ.mono fun r σ6 π6 ⟨b6, m6, lm6, c1, c2, c3, c4, c5, c6, c7⟩ => ?_
        subst c1; subst c6
        have hJ6 := hT5.join hK5 c2 c3 c4 c5
        have hyes : b6 = true := c7.yes (by simpa using ⟨hg1, hg2⟩) hs5.sol (by
          rw [alike_two]
          exact (alike_iff.1 (hal s ((hsol s).1 hs5.sol))) _ (List.mem_of_getElem? ht) _ (List.mem_of_getElem? hd))
        subst hyes
        have hp := c7.1 rfl
        have hsol6 : ∀ τ, Sol m6 τ ↔ Sol m1 τ := fun τ => by
          rw [hp.2.2 τ, hsol τ]
          exact ⟨fun h => h.1, fun h => ⟨h, alike_two.2 ((alike_iff.1 (hal τ h)) _ (List.mem_of_getElem? ht) _ (List.mem_of_getElem? hd))⟩⟩
        have hs6 : Sn m6 s := by
          obtain ⟨ρ, hρ⟩ := hp.1.rank
          obtain ⟨s', hs'⟩ := hρ.sense
          obtain ⟨ρ1, hρ1⟩ := hb1.rank
          have : s' = s := funext fun v => hp.1.tells hs' hρ1 hs1 (hb1.least s hs1) hsol6 v
          rw [← this]; exact hs'
        conv => whnf
        refine ⟨trivial, ?_⟩
        conv => whnf
        exact ⟨⟨(i + 1, σ6, lm6, m6), Nat.le_of_lt hi2, hJ6.1, hJ6.2.1, hp.1, hs6, hsol6⟩, le_of ⟨.rfl, .rfl, .rfl, .rfl, .rfl, .succ (n := 2 ^ 30) (show i < 2 ^ 30 by omega) (by omega), trivial⟩ ⟨⟨_, rfl, .rfl⟩, trivial⟩ rfl (fun _ _ h => h) (fun _ _ h => h), by show ts.length - (i + 1) < ts.length - i; omega⟩
end Go.Lf
