/- maps.Clone, walked. -/
import Derived.Test.YtmdjomilicoobaaUs2
import Derived.Shelf.SlMaps.Clone
namespace Go.Lf
open Go Go.Proofs
set_option maxRecDepth 10000
set_option maxHeartbeats 2000000

theorem clone_run (b : Nat) (es : Array MapEntry) (clock : Nat) (w : World) (hb : w.heap[b]? = some (.map es clock)) :
    Calls Try.prog 22 #[.map (some b)] w fun e w' => e = .returned (.map (some w.heap.size)) ∧ w' = w.alloc (.map es clock) := by
  have hq := fun w => run_eql_map_nil_sl (P := Try.prog) w 43 _ _ (some b) Try.underlying43
  have hm := mixed
  go_enter Try.func22, Try.ntmps22
  go_wp2
  rw [run_callFunc_extern (f := 29) (P := Try.prog) rfl (by kernel_rfl) (by kernel_rfl) (by kernel_rfl) (e := Extern.MapsClone.clone) (by kernel_rfl), run_maps_clone_sl (P := Try.prog) w 43 hb]
  simp only [Result.andThen]
  rw [Oper.upon_value]
  go_wp2
  rw [run_typeAssert_map_sl (P := Try.prog) _ 43 20 _ _ _ Try.underlying43]
  simp only [Result.andThen]
  rw [Oper.upon_value]
  go_wp2
  go_ret
  exact ⟨rfl, rfl⟩

theorem clone_calls {σ : Store} {lm : Nat} {m : Mp} (hm : σ lm = mpO m) (π : Toks) :
    ACalls Try.prog 22 [.mp lm] σ π fun x σ' π' => ∃ l, σ l = none ∧ x = .ret (.mp l) ∧ σ' = upd σ l (mpO m) ∧ π' = π := by
  refine ⟨⟨Try.f22, Try.func22, by kernel_rfl, by kernel_rfl⟩, fun g w vs hi hv => ?_⟩
  obtain ⟨hsz, hv⟩ := hv
  obtain ⟨v, rfl⟩ : ∃ v, vs = #[v] := by
    have : vs.size = 1 := hsz.symm
    exact ⟨vs[0], by apply Array.ext <;> simp [this]; intro i h1; subst h1; rfl⟩
  have h0 := hv 0 _ v rfl rfl
  obtain ⟨b, h1, h2, es, clock, h3, h4, h5⟩ := hi.objs lm _ hm
  cases h0 with
  | mp _ b' h6 =>
    rw [h1] at h6; cases h6
    obtain ⟨l, hl1, hl2⟩ := hi.freshLoc
    obtain ⟨g', i1, i2, i3⟩ := inv_newObj hi hl1 hl2 (.map es clock) (ob := .map fun k => (m k).map Ty.v) (fun g' w' hh hx => ⟨es, clock, hh, h4, fun k => by
      have := h5 k
      split
      · rename_i e he
        rw [he] at this
        obtain ⟨v, h7, h8⟩ := this
        exact ⟨v, h7, h8.ext hx⟩
      · rename_i he
        rw [he] at this
        exact this⟩)
    refine (clone_run b es clock w h3).mono fun e w' ⟨he, hw⟩ => ?_
    subst he; subst hw
    exact ⟨g', .ret (.mp l), _, π, ⟨l, hl1, rfl, rfl, rfl⟩, i3, i2, _, rfl, .mp _ _ i1⟩

/-- All of a row come to the same. -/
def Alike (τ : Int → Ty) (ts : List Ty) : Prop := ∀ (j : Nat) (t u : Ty), ts[0]? = some u → ts[j]? = some t → u.sub τ = t.sub τ

def JoinPost (n : Int) (m : Mp) (ts : List Ty) (b : Bool) (m' : Mp) : Prop :=
  (b = true → Bk n m' ∧ (∀ t ∈ ts, Gd n t) ∧ ∀ τ, Sol m' τ ↔ Sol m τ ∧ Alike τ ts) ∧ (b = false → m' = m ∧ ((∀ t ∈ ts, Gd n t) → ∀ τ, Sol m τ → ¬ Alike τ ts))

theorem knows_gd {n : Int} {ts : List Ty} (hts : ∀ t ∈ ts, t.Ok) : (ts.all Ty.may && ts.all (Ty.known n)) = true ↔ ∀ t ∈ ts, Gd n t := by
  rw [Bool.and_eq_true, List.all_eq_true, List.all_eq_true]
  exact ⟨fun ⟨h1, h2⟩ t ht => ⟨hts t ht, h1 t ht, h2 t ht⟩, fun h => ⟨fun t ht => (h t ht).may, fun t ht => (h t ht).known⟩⟩

def JoinR (σ : Store) (l lm : Nat) (π : Toks) (n : Int) (m : Mp) (ts : List Ty) : Res → Store → Toks → Prop := fun x σ' π' => ∃ b m' lm', x = .ret (vB b) ∧ σ' l = bookO n lm' ∧ σ' lm' = mpO m' ∧ (lm' = lm ∨ σ lm' = none) ∧ (∀ k o, k ≠ l → k ≠ lm → σ k = some o → σ' k = some o) ∧ π' = π ∧ JoinPost n m ts b m'

theorem Join_calls {σ : Store} {l lm : Nat} {n : Int} {m : Mp} (h : σ l = bookO n lm) (hm : σ lm = mpO m) (hb : Bk n m) (π : Toks) (ts : List Ty) (hts : ∀ t ∈ ts, t.Ok) (hl : ts.length ≤ 2 ^ 47) :
    ACalls Try.prog 11 [.ref l 0, .sl (Ty.vs ts)] σ π (JoinR σ l lm π n m ts) := by
  have hln : l ≠ lm := fun e => by subst e; rw [h] at hm; cases hm
  have hgd := knows_gd (n := n) hts
  refine acalls_of [] mixed Try.func11 rfl (by kernel_rfl) (by kernel_rfl) ?_
  conv => whnf
  refine (knows_calls _ n σ π (vars_calls h π) ts hl hts).use ?_
  cases hk : (ts.all Ty.may && ts.all (Ty.known n))
  · conv => whnf
    refine ⟨σ, π, fun _ _ h => h, fun _ _ h => h, false, m, lm, rfl, h, hm, .inl rfl, fun _ _ _ _ h => h, rfl, fun e => (by cases e), fun _ => ⟨rfl, fun hg => ?_⟩⟩
    rw [hgd.2 hg] at hk; cases hk
  · have hg := hgd.1 hk
    conv => whnf
    refine ⟨_, h, _, rfl, ?_⟩
    conv => whnf
    refine (clone_calls hm π).mono fun r σ1 π1 ⟨lw, a1, a2, a3, a4⟩ => ?_
    subst a2; subst a3; subst a4
    have hwl : lw ≠ l := none_ne a1 h
    have hwm : lw ≠ lm := none_ne a1 hm
    conv => whnf
    refine ⟨{ p : Nat × Mp // 1 ≤ p.1 ∧ Bk n p.2 ∧ ∀ τ, Sol p.2 τ ↔ Sol m τ ∧ ∀ (j : Nat) (t u : Ty), j < p.1 → ts[0]? = some u → ts[j]? = some t → u.sub τ = t.sub τ },
      fun p => { T := tOf [(0, tV (.ref l 0)), (1, tV (.sl (Ty.vs ts))), (5, tV (.mp lw)), (6, tV (vI p.1.1))], L := lOf [], σ := upd (upd σ lw (mpO m)) lm (mpO p.1.2), π := π1 }, fun p => ts.length - p.1.1, ⟨⟨(1, m), Nat.le_refl _, hb, fun τ => ⟨fun hs => ⟨hs, fun j t u hj hu ht => ?_⟩, fun hs => hs.1⟩⟩, ?_⟩, ?_⟩
    · have : j = 0 := by have : j < 1 := hj; omega
      subst this; rw [hu] at ht; cases ht; rfl
    · refine le_of ⟨.rfl, .rfl, .rfl, .rfl, trivial⟩ trivial rfl ?_ (fun _ _ h => h)
      rw [upd_self ((upd_ne _ _ hwm.symm).trans hm)]; exact fun _ _ h => h
    · rintro ⟨⟨i, m1⟩, hi, hb1, hsol⟩
      dsimp only at hi hb1 hsol
      have hs1 : upd (upd σ lw (mpO m)) lm (mpO m1) l = bookO n lm := (upd_ne _ _ hln).trans ((upd_ne _ _ hwl.symm).trans h)
      have hkeep : ∀ (m2 : Mp) (k : Nat) (o : Obj), k ≠ l → k ≠ lm → σ k = some o → upd (upd σ lw (mpO m)) lm (mpO m2) k = some o := fun m2 k o _ h2 h3 => by
        rw [upd_ne _ _ h2, upd_ne _ _ (fun e => by subst e; rw [a1] at h3; cases h3)]; exact h3
      conv => whnf
      rw [Ty.vs_length]
      cases h5 : decide ((i : Int) < (ts.length : Int))
      · simp at h5
        conv => whnf
        refine ⟨_, _, fun _ _ h => h, fun _ _ h => h, true, m1, lm, rfl, hs1, upd_same .., .inl rfl, hkeep m1, rfl, fun _ => ⟨hb1, hg, fun τ => ?_⟩, fun e => (by cases e)⟩
        rw [hsol τ]
        exact ⟨fun ⟨h1, h2⟩ => ⟨h1, fun j t u hu ht => h2 j t u (by have := (List.getElem?_eq_some_iff.1 ht).1; omega) hu ht⟩, fun ⟨h1, h2⟩ => ⟨h1, fun j t u _ hu ht => h2 j t u hu ht⟩⟩
      · simp at h5
        obtain ⟨tk, tn, us, ht⟩ := Ty.at h5
        obtain ⟨uk, un, vs, hu⟩ := Ty.at (ks := ts) (i := 0) (by omega)
        have hgt := hg _ (List.mem_of_getElem? ht)
        have hgu := hg _ (List.mem_of_getElem? hu)
        conv => whnf
        refine ⟨Ty.v (.mk uk un vs), ⟨by omega, Ty.vs_get hu, rfl⟩, ?_⟩
        conv => whnf
        refine ⟨Ty.v (.mk tk tn us), ⟨by omega, Ty.vs_get ht, rfl⟩, ?_⟩
        conv => whnf
        refine (join_calls _ m1 rfl hb1 _ π1 l lm (.mk uk un vs) (.mk tk tn us) hs1 (upd_same ..) hgu hgt).mono fun r σ3 π3 ⟨b, m2, d1, d2, d3, d4⟩ => ?_
        rw [upd_upd] at d2
        subst d1; subst d2; subst d3
        have hs2 : upd (upd σ lw (mpO m)) lm (mpO m2) l = bookO n lm := (upd_ne _ _ hln).trans ((upd_ne _ _ hwl.symm).trans h)
        conv => whnf
        refine ⟨trivial, ?_⟩
        conv => whnf
        cases b
        · conv => whnf
          refine ⟨_, hs2, rfl, Nat.le_of_ble_eq_true rfl, ?_⟩
          conv => whnf
          refine ⟨_, _, fun _ _ h => h, fun _ _ h => h, false, m, lw, rfl, upd_same .., ?_, .inr a1, fun k o h1 h2 h3 => ?_, rfl, fun e => (by cases e), fun _ => ⟨rfl, fun _ τ hs hal => ?_⟩⟩
          · exact (upd_ne _ _ hwl).trans ((upd_ne _ _ hwm).trans (upd_same ..))
          · exact (upd_ne _ _ h1).trans (hkeep m2 k o h1 h2 h3)
          · exact d4.2 rfl τ ((hsol τ).2 ⟨hs, fun j t u _ hu ht => hal j t u hu ht⟩) (hal i _ _ hu ht)
        · conv => whnf
          obtain ⟨q1, _, q3⟩ := d4.1 rfl
          refine ⟨⟨(i + 1, m2), by show 1 ≤ i + 1; omega, q1, fun τ => ?_⟩, le_of ⟨.rfl, .rfl, .rfl, .succ h5 hl, trivial⟩ trivial rfl (fun _ _ h => h) (fun _ _ h => h), by show ts.length - (i + 1) < ts.length - i; omega⟩
          show Sol m2 τ ↔ _
          rw [q3 τ, hsol τ]
          constructor
          · rintro ⟨⟨g1, g2⟩, g3⟩
            refine ⟨g1, fun j t u hj hu' ht' => ?_⟩
            by_cases e : j = i
            · subst e; rw [ht] at ht'; rw [hu] at hu'; cases ht'; cases hu'; exact g3
            · exact g2 j t u (by have : j < i + 1 := hj; omega) hu' ht'
          · rintro ⟨g1, g2⟩
            exact ⟨⟨g1, fun j t u hj => g2 j t u (by show j < i + 1; omega)⟩, g2 i _ _ (by show i < i + 1; omega) hu ht⟩

/-- Of no book: are they all the same, without variables? -/
theorem Join_nil (σ : Store) (π : Toks) (ts : List Ty) (hts : ∀ t ∈ ts, t.Ok) (hl : ts.length ≤ 2 ^ 47) :
    SCall Try.prog 11 [nilB, .sl (Ty.vs ts)] σ π (vB ((ts.all Ty.may && ts.all (Ty.known 0)) && ts.all (sameHead ts))) := by
  refine acalls_of [] mixed Try.func11 rfl (by kernel_rfl) (by kernel_rfl) ?_
  conv => whnf
  refine (knows_calls _ 0 σ π (vars_nil σ π) ts hl hts).use ?_
  cases hk : (ts.all Ty.may && ts.all (Ty.known 0))
  · conv => whnf
    exact ⟨σ, π, fun _ _ h => h, fun _ _ h => h, congrArg Res.ret (rfl), rfl, rfl⟩
  · conv => whnf
    refine (usame_calls ts hl hts).use ?_
    conv => whnf
    exact ⟨σ, π, fun _ _ h => h, fun _ _ h => h, congrArg Res.ret (rfl), rfl, rfl⟩
end Go.Lf
