/- The statement of layer 9 on a row of pairs that grows, walked: it is true. -/
import Derived.Test.YtmdjomilicoobaaUq6
namespace Go.Lf
open Go Go.Proofs
set_option maxRecDepth 10000
set_option maxHeartbeats 4000000

/-- A join that must come about. -/
theorem Join_yes {σ0 σ : Store} (hK : Kept σ0 σ) {l lm : Nat} {n : Int} {m : Mp} (h : OwnB σ0 σ l lm n m) (hb : Bk n m) (π : Toks) {x y : Ty} (hx : Gd n x) (hy : Gd n y) {τ : Int → Ty} (hs : Sol m τ) (he : x.sub τ = y.sub τ) :
    ACalls Try.prog 11 [.ref l 0, .sl [x.v, y.v]] σ π fun r σ' π' => r = .ret (vB true) ∧ π' = π ∧ ∃ m' lm', Kept σ0 σ' ∧ OwnB σ0 σ' l lm' n m' ∧ Bk n m' ∧ ∀ τ, Sol m' τ ↔ Sol m τ ∧ x.sub τ = y.sub τ := by
  have hall : ∀ t ∈ [x, y], Gd n t := by simpa using ⟨hx, hy⟩
  refine (Join_calls h.bk h.mp hb π [x, y] (fun t ht => (hall t ht).ok) (by simp)).mono fun r σ' π' ⟨b, m', lm', c1, c2, c3, c4, c5, c6, c7⟩ => ?_
  have hJ := h.join hK c2 c3 c4 c5
  have hyes : b = true := c7.yes hall hs (alike_two.2 he)
  subst hyes
  have hp := c7.1 rfl
  exact ⟨c1, c6, m', lm', hJ.1, hJ.2.1, hp.1, fun τ => by rw [hp.2.2 τ, alike_two]⟩

theorem grows_calls (n : Int) (hn0 : 0 ≤ n) (hn1 : n ≤ 255) : PCall Try.prog 4 [vU8 n] (vB true) := by
  intro σ π
  refine acalls_aw Try.func4 rfl (by kernel_rfl) (by kernel_rfl) ?_
  refine AW.cut [] mixed 2 (ι := { _u : Unit // n ≤ 200 }) (fun _ => { T := tOf [(0, tV (vU8 n)), (2, tV (vB false))], L := lOf [], σ := σ, π := π }) ?_ ?_
  · conv => whnf
    cases h1 : decide (n > 200)
    · conv => whnf
      refine ⟨⟨(), by simp at h1; omega⟩, le_of ⟨.rfl, .rfl, trivial⟩ trivial rfl (fun _ _ h => h) (fun _ _ h => h)⟩
    · conv => whnf
      refine awake_calls.use ?_
      conv => whnf
      exact ⟨σ, π, fun _ _ h => h, fun _ _ h => h, congrArg Res.ret (rfl), rfl, rfl⟩
  rintro ⟨_, hn⟩
  refine AW.cut [] mixed 4 (ι := { p : Store × Nat × Nat × Mp // Kept σ p.1 ∧ OwnB σ p.1 p.2.1 p.2.2.1 (2 * n + 2) p.2.2.2 ∧ Bk (2 * n + 2) p.2.2.2 ∧ ∀ τ, Sol p.2.2.2 τ ↔ GS n.toNat τ }) (fun p => { T := tOf [(0, tV (vU8 n)), (2, tV (vB false)), (3, tV (.ref p.1.2.1 0)), (4, .lref 4 0), (5, .lref 5 0), (6, tV (vB true))], L := lOf [(4, [(vU8 5, .no), (vI (2 * n), .no), (.sl [], .no)]), (5, [(vU8 5, .no), (vI (2 * n + 1), .no), (.sl [], .no)])], σ := p.1.1, π := π }) ?_ ?_
  · conv => whnf
    refine (new_calls σ π).mono fun r σ1 π1 ⟨a, am, a1, a2, a3, a4, a5, a6⟩ => ?_
    subst a4; subst a6
    have hA := OwnB.new (σ0 := σ) (fun _ _ h => h) a1 a2 a3 a5
    have hA1 := hA.1
    have hA2 := hA.2.1
    clear hA a5
    conv => whnf
    refine (fresh_calls hA2.bk (by omega) π1).mono fun r σ2 π2 ⟨c1, c2, c3⟩ => ?_
    subst c1; subst c3
    have hB := hA2.put hA1 (n' := 1)
    rw [show upd σ1 a (bookO 1 am) = σ2 from c2.symm] at hB
    clear c2
    conv => whnf
    refine (fresh_calls hB.2.bk (by omega) π2).mono fun r σ3 π3 ⟨d1, d2, d3⟩ => ?_
    subst d1; subst d3
    have hC := hB.2.put hB.1 (n' := 2)
    rw [show upd σ2 a (bookO 2 am) = σ3 from d2.symm] at hC
    clear d2
    conv => whnf
    refine ⟨{ p : Nat × Store × Nat × Mp // (p.1 : Int) ≤ n ∧ Kept σ p.2.1 ∧ OwnB σ p.2.1 a p.2.2.1 (2 * (p.1 : Int) + 2) p.2.2.2 ∧ Bk (2 * (p.1 : Int) + 2) p.2.2.2 ∧ ∀ τ, Sol p.2.2.2 τ ↔ GS p.1 τ }, fun p => { T := tOf [(0, tV (vU8 n)), (2, tV (vB false)), (3, tV (.ref a 0)), (4, .lref 4 0), (5, .lref 5 0), (6, tV (vB true)), (7, tV (vI p.1.1))], L := lOf [(4, [(vU8 5, .no), (vI (2 * (p.1.1 : Int)), .no), (.sl [], .no)]), (5, [(vU8 5, .no), (vI (2 * (p.1.1 : Int) + 1), .no), (.sl [], .no)])], σ := p.1.2.1, π := π3 }, fun p => n.toNat - p.1.1, ⟨⟨(0, σ3, am, fun _ => none), hn0, hC.1, hC.2, .empty (by omega), fun τ => ⟨fun _ j hj => absurd hj (Nat.not_lt_zero _), fun _ => .empty τ⟩⟩, ?_⟩, ?_⟩
    · exact le_of ⟨.rfl, .rfl, .rfl, .rfl, .rfl, .rfl, .rfl, trivial⟩ ⟨⟨_, rfl, .rfl⟩, ⟨_, rfl, .rfl⟩, trivial⟩ rfl (fun _ _ h => h) (fun _ _ h => h)
    · rintro ⟨⟨i, σ4, lm, m⟩, hi, hK, hO, hb, hsol⟩
      dsimp only at hi hK hO hb hsol
      conv => whnf
      rw [wrap_in (n := n) (by omega) (by omega)]
      cases h5 : decide ((i : Int) < n)
      · simp at h5
        have e : (i : Int) = n := by omega
        have e' : i = n.toNat := by omega
        have hO' : OwnB σ σ4 a lm (2 * n + 2) m := by rw [← e]; exact hO
        have hb' : Bk (2 * n + 2) m := by rw [← e]; exact hb
        have hsol' : ∀ τ, Sol m τ ↔ GS n.toNat τ := by rw [← e']; exact hsol
        conv => whnf
        refine ⟨⟨⟨σ4, a, lm, m⟩, hK, hO', hb', hsol'⟩, le_of ⟨.rfl, .rfl, .rfl, .rfl, .rfl, .rfl, trivial⟩ ⟨⟨_, rfl, ?_⟩, ⟨_, rfl, ?_⟩, trivial⟩ rfl (fun _ _ h => h) (fun _ _ h => h)⟩
        · show CLe [(vU8 5, .no), (vI (2 * (i : Int)), .no), (.sl [], .no)] _
          rw [e]; exact .rfl
        · show CLe [(vU8 5, .no), (vI (2 * (i : Int) + 1), .no), (.sl [], .no)] _
          rw [e]; exact .rfl
      · simp at h5
        conv => whnf
        refine (fresh_calls hO.bk (by omega) π3).mono fun r σ5 π5 ⟨c1, c2, c3⟩ => ?_
        subst c1; subst c3
        have hB := hO.put hK (n' := 2 * (i : Int) + 2 + 1)
        rw [← c2] at hB
        clear c2
        conv => whnf
        refine (fresh_calls hB.2.bk (by omega) π5).mono fun r σ6 π6 ⟨d1, d2, d3⟩ => ?_
        subst d1; subst d3
        have hC := hB.2.put hB.1 (n' := 2 * (i : Int) + 2 + 1 + 1)
        rw [← d2] at hC
        clear d2 hB
        have hbC : Bk (2 * (i : Int) + 2 + 1 + 1) m := hb.grow (by omega) (by omega)
        have hg : ∀ v : Int, 0 ≤ v → v < 2 * (i : Int) + 2 + 1 + 1 → Gd (2 * (i : Int) + 2 + 1 + 1) (tv v) := fun v h0 h1 => .tv (by omega) h0 h1
        have hx := hg (2 * (i : Int)) (by omega) (by omega)
        have hy := hg (2 * (i : Int) + 1) (by omega) (by omega)
        have hG := gsol_GS (tv 0) (tv 1) (i + 1) i (by omega)
        conv => whnf
        refine (Join_yes hC.1 hC.2 hbC π6 (x := tv (2 * (i : Int) + 2)) (y := tPair (tv (2 * (i : Int))) (tv (2 * (i : Int)))) (hg _ (by omega) (by omega)) (.pair hx hx) (τ := gsol (tv 0) (tv 1)) ((hsol _).2 (gsol_GS _ _ _)) (by rw [Ty.sub_var, sub_pair, Ty.sub_var]; exact hG.1)).mono fun r σ7 π7 ⟨e1, e2, m7, lm7, e3, e4, e5, e6⟩ => ?_
        subst e1; subst e2
        conv => whnf
        refine (Join_yes e3 e4 e5 π7 (x := tv (2 * (i : Int) + 2 + 1)) (y := tPair (tv (2 * (i : Int) + 1)) (tv (2 * (i : Int) + 1))) (hg _ (by omega) (by omega)) (.pair hy hy) (τ := gsol (tv 0) (tv 1)) ((e6 _).2 ⟨(hsol _).2 (gsol_GS _ _ _), by rw [Ty.sub_var, sub_pair, Ty.sub_var]; exact hG.1⟩) (by rw [Ty.sub_var, sub_pair, Ty.sub_var]; exact hG.2)).mono fun r σ8 π8 ⟨f1, f2, m8, lm8, f3, f4, f5, f6⟩ => ?_
        subst f1; subst f2
        conv => whnf
        have en : 2 * (i : Int) + 2 + 1 + 1 = 2 * ((i + 1 : Nat) : Int) + 2 := by omega
        rw [en] at f4 f5
        have hsol8 : ∀ τ, Sol m8 τ ↔ GS (i + 1) τ := fun τ => by
          rw [f6 τ, e6 τ, hsol τ, GS_succ, Ty.sub_var, sub_pair, Ty.sub_var, Ty.sub_var, sub_pair, Ty.sub_var]
        have l4 : CLe [(vU8 5, .no), (vI (2 * (i : Int) + 2), .no), (.sl [], .no)] [(vU8 5, .no), (vI (2 * ((i + 1 : Nat) : Int)), .no), (.sl [], .no)] := by
          rw [show 2 * ((i + 1 : Nat) : Int) = 2 * (i : Int) + 2 by omega]; exact .rfl
        have l5 : CLe [(vU8 5, .no), (vI (2 * (i : Int) + 2 + 1), .no), (.sl [], .no)] [(vU8 5, .no), (vI (2 * ((i + 1 : Nat) : Int) + 1), .no), (.sl [], .no)] := by
          rw [show 2 * ((i + 1 : Nat) : Int) + 1 = 2 * (i : Int) + 2 + 1 by omega]; exact .rfl
        repeat' (first
          | exact ⟨⟨(i + 1, σ8, lm8, m8), by show ((i + 1 : Nat) : Int) ≤ n; omega, f3, f4, f5, hsol8⟩, le_of ⟨.rfl, .rfl, .rfl, .rfl, .rfl, .rfl, .succ (n := 2 ^ 30) (show i < 2 ^ 30 by omega) (by omega), trivial⟩ ⟨⟨_, rfl, l4⟩, ⟨_, rfl, l5⟩, trivial⟩ rfl (fun _ _ h => h) (fun _ _ h => h), by show n.toNat - (i + 1) < n.toNat - i; omega⟩
          | (refine ⟨trivial, ?_⟩; conv => whnf)
          | (refine ⟨?_, ?_⟩ <;> conv => whnf))
  rintro ⟨⟨σ1, a, lm, m⟩, hK, hO, hb, hsol⟩
  dsimp only at hK hO hb hsol
  obtain ⟨ρ, hρ⟩ := hb.rank
  obtain ⟨s, hs⟩ := hρ.sense
  have hN : ((n.toNat : Nat) : Int) = n := by omega
  have hGs := (hsol s).1 hs.sol
  have htell := hGs.tell n.toNat (Nat.le_refl _)
  rw [hN] at htell
  obtain ⟨r0, hr0, _, _⟩ := Sn.var_of hb hs (τ := gsol (tv 0) (tv 1)) ((hsol _).2 (gsol_GS _ _ _)) (v := 0) (by omega) (by omega) rfl
  have hsz : (s (2 * n)).size = 2 ^ n.toNat * 2 - 1 := by
    have := PT_size n.toNat (s 0)
    rw [← htell.1, hr0] at this
    have e : (tv r0).size = 1 := rfl
    rw [e] at this
    omega
  have hx : Gd (2 * n + 2) (tv (2 * n)) := .tv hb.n1 (by omega) (by omega)
  have hy : Gd (2 * n + 2) (tv (2 * n + 1)) := .tv hb.n1 (by omega) (by omega)
  have hS := Sense_var hO.bk hO.mp hb hs (2 * n) (by omega) (by omega) (most := 500) (by omega) (by omega) π
  rw [known_tv (by omega) (by omega)] at hS
  have hgx : Gd (2 * n + 2) (s (2 * n)) := Sn.gd hb hs (by omega) (by omega)
  have hJ := Join_yes hK hO hb π hx hy (τ := gsol (tv 0) (tv 0)) ((hsol _).2 (gsol_GS _ _ _)) (by
    have e1 := gsol_even (tv 0) (tv 0) n.toNat
    have e2 := gsol_odd (tv 0) (tv 0) n.toNat
    rw [hN] at e1 e2
    rw [Ty.sub_var, Ty.sub_var, e1, e2])
  have hS1 : ∀ (σ2 : Store) (π2 : Toks) (m2 : Mp) (lm2 : Nat), OwnB σ σ2 a lm2 (2 * n + 2) m2 → Bk (2 * n + 2) m2 → (∀ τ, Sol m2 τ ↔ Sol m τ ∧ (tv (2 * n)).sub τ = (tv (2 * n + 1)).sub τ) → SCall Try.prog 12 [.ref a 0, (tv 1).v, vI 1] σ2 π2 (.tup [(tv 0).v, vI 0]) := fun σ2 π2 m2 lm2 h1 h2 h3 => by
    obtain ⟨ρ2, hρ2⟩ := h2.rank
    obtain ⟨s2, hs2⟩ := hρ2.sense
    obtain ⟨k1, k2⟩ := (h3 s2).1 hs2.sol
    rw [Ty.sub_var, Ty.sub_var] at k2
    have k3 := ((hsol s2).1 k1).tell n.toNat (Nat.le_refl _)
    rw [hN] at k3
    rw [k3.1, k3.2] at k2
    have k4 := PT_inj _ k2
    obtain ⟨r, hr, hr0, hr1⟩ := Sn.var_of h2 hs2 (τ := gsol (tv 0) (tv 0)) ((h3 _).2 ⟨(hsol _).2 (gsol_GS _ _ _), by
      have e1 := gsol_even (tv 0) (tv 0) n.toNat
      have e2 := gsol_odd (tv 0) (tv 0) n.toNat
      rw [hN] at e1 e2
      rw [Ty.sub_var, Ty.sub_var, e1, e2]⟩) (v := 0) (by omega) (by omega) rfl
    have hr2 : r = 0 := by omega
    subst hr2
    have := Sense_var h1.bk h1.mp h2 hs2 1 (by omega) (by omega) (most := 1) (by omega) (by omega) π2
    rw [known_tv (by omega) (by omega), ← k4, hr] at this
    exact this
  have hz := same_calls (tv 0) (tv 0) (Ok.tv (by omega) (by omega))
  rw [Ty.same_refl] at hz
  unfold senseR at hS
  have hbig := big_iff n.toNat
  rw [← hsz] at hbig
  have rest : ∀ e : Int, (e == 3) = decide (n > 7) → ∀ p : { p : Store // Kept σ p }, AW Try.prog (tailC 3 (tailC 4 (tailC 2 (Try.f4.body.getD .skip)))) (fnQ Try.prog Try.f4 fun x σ' π' => x = .ret (vB true) ∧ σ' = σ ∧ π' = π) { T := tOf [(0, tV (vU8 n)), (6, tV (vB true)), (11, tV (vI e)), (12, .lref 12 0), (13, tV (vI 0))], L := lOf [(12, [(vU8 5, .no), (vI 0, .no), (.sl [], .no)])], σ := p.1, π := π } := by
    rintro e he ⟨σ9, hK9⟩
    refine AW.of [] mixed ?_
    have key : ((e == 3) == decide (n > 7)) = true := by rw [he]; simp
    conv => whnf
    rw [key]
    conv => whnf
    refine (law_v 0).use ?_
    conv => whnf
    refine ⟨trivial, ?_⟩
    conv => whnf
    refine hz.use ?_
    conv => whnf
    refine ⟨trivial, ?_⟩
    conv => whnf
    refine awake_calls.use ?_
    conv => whnf
    refine ⟨trivial, ?_⟩
    conv => whnf
    exact ⟨σ, _, hK9, fun _ _ h => h, rfl, rfl, rfl⟩
  cases h7 : decide (n > 7)
  · have e1 : decide (((s (2 * n)).size : Int) ≤ 500) = true := by simp at h7 ⊢; omega
    rw [e1] at hS
    generalize s (2 * n) = x at hS
    obtain ⟨xk, xw, xs⟩ := x
    refine AW.cut [] mixed 3 (ι := { p : Store // Kept σ p }) (fun p => { T := tOf [(0, tV (vU8 n)), (6, tV (vB true)), (11, tV (vI 0)), (12, .lref 12 0), (13, tV (vI 0))], L := lOf [(12, [(vU8 5, .no), (vI 0, .no), (.sl [], .no)])], σ := p.1, π := π }) ?_ (rest 0 (by rw [h7]; rfl))
    conv => whnf
    refine hS.use ?_
    conv => whnf
    refine hJ.mono fun r σ2 π2 ⟨c1, c2, m2, lm2, c3, c4, c5, c6⟩ => ?_
    subst c1; subst c2
    conv => whnf
    refine (law_v 1).use ?_
    conv => whnf
    refine (hS1 σ2 π2 m2 lm2 c4 c5 c6).use ?_
    conv => whnf
    exact ⟨⟨σ2, c3⟩, le_of ⟨.rfl, .rfl, .rfl, .rfl, .rfl, trivial⟩ ⟨⟨_, rfl, .rfl⟩, trivial⟩ rfl (fun _ _ h => h) (fun _ _ h => h)⟩
  · have e1 : decide (((s (2 * n)).size : Int) ≤ 500) = false := by simp at h7 ⊢; omega
    rw [e1] at hS
    refine AW.cut [] mixed 3 (ι := { p : Store // Kept σ p }) (fun p => { T := tOf [(0, tV (vU8 n)), (6, tV (vB true)), (11, tV (vI 3)), (12, .lref 12 0), (13, tV (vI 0))], L := lOf [(12, [(vU8 5, .no), (vI 0, .no), (.sl [], .no)])], σ := p.1, π := π }) ?_ (rest 3 (by rw [h7]; rfl))
    conv => whnf
    refine hS.use ?_
    conv => whnf
    refine hJ.mono fun r σ2 π2 ⟨c1, c2, m2, lm2, c3, c4, c5, c6⟩ => ?_
    subst c1; subst c2
    conv => whnf
    refine (law_v 1).use ?_
    conv => whnf
    refine (hS1 σ2 π2 m2 lm2 c4 c5 c6).use ?_
    conv => whnf
    exact ⟨⟨σ2, c3⟩, le_of ⟨.rfl, .rfl, .rfl, .rfl, .rfl, trivial⟩ ⟨⟨_, rfl, .rfl⟩, trivial⟩ rfl (fun _ _ h => h) (fun _ _ h => h)⟩
end Go.Lf
