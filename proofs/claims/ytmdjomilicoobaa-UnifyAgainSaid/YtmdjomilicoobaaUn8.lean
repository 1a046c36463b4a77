/- The book, walked: ways to what a variable stands for. -/
import Derived.Test.YtmdjomilicoobaaUn7
namespace Go.Lf
open Go Go.Proofs
set_option maxRecDepth 10000
set_option maxHeartbeats 1000000

abbrev mpO (m : Mp) : Option Obj := some (.map fun k => (m k).map Ty.v)

/-- From a type by variables alone. -/
inductive Links (m : Mp) : Ty → Ty → Prop
  | refl (t : Ty) : Links m t t
  | step {w : Int} {ks : List Ty} {x t : Ty} (hx : m w = some x) (hk : x.kind = 5) (h : Links m x t) : Links m (.mk 5 w ks) t

theorem Links.snoc {m : Mp} {t x : Ty} {w : Int} {ks : List Ty} (h : Links m t (.mk 5 w ks)) (hx : m w = some x) (hk : x.kind = 5) : Links m t x := by
  generalize e : Ty.mk 5 w ks = u at h
  induction h with
  | refl t => subst e; exact .step hx hk (.refl x)
  | step hx' hk' _ ih => exact .step hx' hk' (ih e)

theorem Links.sub {m : Mp} {t u : Ty} (h : Links m t u) {τ : Int → Ty} (hs : Sol m τ) : t.sub τ = u.sub τ := by
  induction h with
  | refl => rfl
  | step hx _ _ ih => rw [Ty.sub_var, hs _ _ hx]; exact ih

theorem Links.gd {n : Int} {m : Mp} (hb : Bk n m) {t u : Ty} (h : Links m t u) (ht : Gd n t) : Gd n u := by
  induction h with
  | refl => exact ht
  | step hx _ _ ih => exact ih (hb.ok _ _ hx).2.2

/-- Where the way by variables ends. -/
structure Root (m : Mp) (t u : Ty) : Prop where
  links : Links m t u
  stop : u.kind = 5 → ∀ x, m u.num = some x → x.kind ≠ 5

theorem lk_some {m : Mp} {w : Int} {x : Ty} {z : V} (hx : m w = some x) : some (TV.val (V.tup [((m w).map Ty.v).getD z, .raw (.bool ((m w).map Ty.v).isSome)]) Own.no) = some (TV.val (V.tup [x.v, vB true]) Own.no) := by rw [hx]; rfl
theorem lk_none {m : Mp} {w : Int} {z : V} (hx : m w = none) : some (TV.val (V.tup [((m w).map Ty.v).getD z, .raw (.bool ((m w).map Ty.v).isSome)]) Own.no) = some (TV.val (V.tup [z, vB false]) Own.no) := by rw [hx]; rfl

theorem fresh_calls {σ : Store} {l lm : Nat} {n : Int} (h : σ l = bookO n lm) (hn : 0 ≤ n ∧ n < 2 ^ 47) (π : Toks) :
    ACalls Try.prog 10 [.ref l 0] σ π fun x σ' π' => x = .ret (tv n).v ∧ σ' = upd σ l (bookO (n + 1) lm) ∧ π' = π := by
  refine acalls_of [] mixed Try.func10 rfl (by kernel_rfl) (by kernel_rfl) ?_
  conv => whnf
  refine ⟨_, h, _, rfl, ?_⟩
  conv => whnf
  refine ⟨_, h, rfl, Nat.le_of_ble_eq_true rfl, ?_⟩
  conv => whnf
  refine ⟨_, upd_same .., _, rfl, ?_⟩
  conv => whnf
  refine ⟨upd σ l (bookO (n + 1) lm), π, ?_, fun _ _ h => h, ?_, rfl, rfl⟩
  · show ∀ l' o, upd σ l (bookO (n + 1) lm) l' = some o → upd σ l (some (.var [(vI (IntKind.i64.wrap (n + 1)), .no), (.mp lm, .no)])) l' = some o
    rw [wrap_in (by omega) (by omega)]
    exact fun _ _ h => h
  · show Res.ret (.agg [vU8 5, vI (IntKind.i64.wrap (IntKind.i64.wrap (n + 1) - 1)), .sl []]) = _
    rw [wrap_in (n := n + 1) (by omega) (by omega), wrap_in (by omega) (by omega), show n + 1 - 1 = n by omega]
    rfl

theorem root_calls {σ : Store} {l lm : Nat} {n : Int} {m : Mp} (h : σ l = bookO n lm) (hm : σ lm = mpO m) (hb : Bk n m) (π : Toks) (t : Ty) :
    ACalls Try.prog 30 [.ref l 0, t.v] σ π fun x σ' π' => (∃ u, x = .ret u.v ∧ Root m t u) ∧ σ' = σ ∧ π' = π := by
  obtain ⟨ρ, hρ⟩ := hb.rank
  obtain ⟨k, w, ks⟩ := t
  refine acalls_of [] mixed Try.func30 rfl (by kernel_rfl) (by kernel_rfl) ?_
  conv => whnf
  refine ⟨{ u : Ty // Links m (.mk k w ks) u }, fun ⟨.mk k w ks, _⟩ => { T := tOf [(0, tV (.ref l 0)), (3, .lref 3 0), (4, .lref 4 0)], L := lOf [(3, [(vU8 k, .no), (vI w, .no), (.sl (Ty.vs ks), .no)]), (4, [(vU8 0, .no), (vI 0, .no), (.sl [], .nil)])], σ := σ, π := π }, fun u => if u.1.kind = 5 then ρ u.1.num + 1 else 0, ⟨⟨_, .refl _⟩, ?_⟩, ?_⟩
  · exact le_of ⟨.rfl, .rfl, .rfl, trivial⟩ ⟨⟨_, rfl, .rfl⟩, ⟨_, rfl, .rfl⟩, trivial⟩ rfl (fun _ _ h => h) (fun _ _ h => h)
  · rintro ⟨⟨k', w', ks'⟩, hl⟩
    conv => whnf
    cases h1 : (k' == 5)
    · conv => whnf
      refine ⟨σ, π, fun _ _ h => h, fun _ _ h => h, ⟨.mk k' w' ks', rfl, hl, fun hk => ?_⟩, rfl, rfl⟩
      simp at h1; exact absurd hk h1
    · simp at h1; subst h1
      conv => whnf
      refine ⟨_, h, _, rfl, ?_⟩
      conv => whnf
      cases hx : m w' with
      | none =>
        refine ⟨_, hm, _, lk_none hx, ?_⟩
        conv => whnf
        refine ⟨And.intro hm (And.intro h trivial), ?_⟩
        conv => whnf
        refine ⟨trivial, ?_⟩
        conv => whnf
        refine ⟨σ, π, fun _ _ h => h, fun _ _ h => h, ⟨.mk 5 w' ks', rfl, hl, fun _ x h1 => ?_⟩, rfl, rfl⟩
        simp only [Ty.num] at h1; rw [hx] at h1; cases h1
      | some x =>
        obtain ⟨xk, xw, xs⟩ := x
        refine ⟨_, hm, _, lk_some hx, ?_⟩
        conv => whnf
        refine ⟨And.intro hm (And.intro h trivial), ?_⟩
        conv => whnf
        refine ⟨trivial, ?_⟩
        conv => whnf
        cases h2 : (xk != 5)
        · simp at h2; subst h2
          conv => whnf
          refine ⟨⟨.mk 5 xw xs, hl.snoc hx rfl⟩, le_of ⟨.rfl, .rfl, .rfl, trivial⟩ ⟨⟨_, rfl, .rfl⟩, ⟨_, rfl, .rfl⟩, trivial⟩ rfl (fun _ _ h => h) (fun _ _ h => h), ?_⟩
          have := hρ _ _ hx xw (.var xs)
          show (if (5 : Int) = 5 then ρ xw + 1 else 0) < (if (5 : Int) = 5 then ρ w' + 1 else 0)
          simp; exact this
        · conv => whnf
          refine ⟨σ, π, fun _ _ h => h, fun _ _ h => h, ⟨.mk 5 w' ks', rfl, hl, fun _ x h1 => ?_⟩, rfl, rfl⟩
          simp only [Ty.num] at h1; rw [hx] at h1; cases h1
          simpa [Ty.kind] using h2

theorem head_calls {σ : Store} {l lm : Nat} {n : Int} {m : Mp} (h : σ l = bookO n lm) (hm : σ lm = mpO m) (hb : Bk n m) (π : Toks) (t : Ty) :
    ACalls Try.prog 32 [.ref l 0, t.v] σ π fun x σ' π' => (∃ u y, x = .ret u.v ∧ Root m t y ∧ (u = y ∧ (y.kind = 5 → m y.num = none) ∨ y.kind = 5 ∧ m y.num = some u)) ∧ σ' = σ ∧ π' = π := by
  obtain ⟨k, w, ks⟩ := t
  refine acalls_of [] mixed Try.func32 rfl (by kernel_rfl) (by kernel_rfl) ?_
  conv => whnf
  refine (root_calls h hm hb π (.mk k w ks)).mono fun r σ' π' ⟨⟨⟨yk, yw, ys⟩, h1, h2⟩, h3, h4⟩ => ?_
  subst h1; subst h3; subst h4
  conv => whnf
  refine ⟨_, h, _, rfl, ?_⟩
  conv => whnf
  cases hx : m yw with
  | none =>
    refine ⟨_, hm, _, lk_none hx, ?_⟩
    conv => whnf
    refine ⟨And.intro hm (And.intro h trivial), ?_⟩
    conv => whnf
    refine ⟨trivial, ?_⟩
    conv => whnf
    refine ⟨σ', π', fun _ _ h => h, fun _ _ h => h, ⟨.mk yk yw ys, .mk yk yw ys, rfl, h2, .inl ⟨rfl, fun _ => hx⟩⟩, rfl, rfl⟩
  | some x =>
    obtain ⟨xk, xw, xs⟩ := x
    refine ⟨_, hm, _, lk_some hx, ?_⟩
    conv => whnf
    refine ⟨And.intro hm (And.intro h trivial), ?_⟩
    conv => whnf
    refine ⟨trivial, ?_⟩
    conv => whnf
    cases h5 : (yk == 5)
    · conv => whnf
      refine ⟨σ', π', fun _ _ h => h, fun _ _ h => h, ⟨.mk yk yw ys, .mk yk yw ys, rfl, h2, .inl ⟨rfl, fun e => ?_⟩⟩, rfl, rfl⟩
      simp [Ty.kind] at h5 e; exact absurd e h5
    · conv => whnf
      simp at h5
      refine ⟨σ', π', fun _ _ h => h, fun _ _ h => h, ⟨.mk xk xw xs, .mk yk yw ys, rfl, h2, .inr ⟨h5, hx⟩⟩, rfl, rfl⟩

theorem linkv_calls (n : Int) : PCall Try.prog 37 [vI n] (tv n).v := by
  intro σ π
  refine acalls_of [] mixed Try.func37 rfl (by kernel_rfl) (by kernel_rfl) ?_
  conv => whnf
  exact ⟨σ, π, fun _ _ h => h, fun _ _ h => h, congrArg Res.ret (rfl), rfl, rfl⟩

theorem new_calls (σ : Store) (π : Toks) :
    ACalls Try.prog 9 [] σ π fun x σ' π' => ∃ l lm, σ l = none ∧ σ lm = none ∧ l ≠ lm ∧ x = .ret (.ref l 0) ∧ σ' = upd (upd σ lm (mpO fun _ => none)) l (bookO 0 lm) ∧ π' = π := by
  refine acalls_of [3] mixed Try.func9 rfl (by kernel_rfl) (by kernel_rfl) ?_
  conv => whnf
  intro lm hlm
  conv => whnf
  intro l hl
  conv => whnf
  have hl : upd σ lm (mpO fun _ => none) l = none := hl
  have hne : l ≠ lm := fun e => by subst e; rw [upd_same] at hl; cases hl
  refine ⟨_, π, fun _ _ h => h, fun _ _ h => h, l, lm, ?_, hlm, hne, rfl, rfl, rfl⟩
  rw [upd_ne _ _ hne] at hl
  exact hl
end Go.Lf
