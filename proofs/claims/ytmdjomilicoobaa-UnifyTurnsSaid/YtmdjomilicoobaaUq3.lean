/- The statement of layer 9 on turned rows, walked: it is true. -/
import Derived.Test.YtmdjomilicoobaaUq2
namespace Go.Lf
open Go Go.Proofs
set_option maxRecDepth 10000
set_option maxHeartbeats 4000000

/-- Two books, side by side. -/
structure Two (σ0 σ : Store) (a am : Nat) (na : Int) (ma : Mp) (b bm : Nat) (nb : Int) (mb : Mp) : Prop where
  kept : Kept σ0 σ
  fst : OwnB σ0 σ a am na ma
  snd : OwnB σ0 σ b bm nb mb
  ne1 : a ≠ b
  ne2 : am ≠ bm

theorem Two.fresh1 {σ0 σ : Store} {a am b bm : Nat} {na nb na' : Int} {ma mb : Mp} (h : Two σ0 σ a am na ma b bm nb mb) : Two σ0 (upd σ a (bookO na' am)) a am na' ma b bm nb mb :=
  ⟨(h.fst.put h.kept).1, (h.fst.put h.kept).2, h.snd.other h.ne1.symm (h.fst.ne h.snd).symm, h.ne1, h.ne2⟩

theorem Two.fresh2 {σ0 σ : Store} {a am b bm : Nat} {na nb nb' : Int} {ma mb : Mp} (h : Two σ0 σ a am na ma b bm nb mb) : Two σ0 (upd σ b (bookO nb' bm)) a am na ma b bm nb' mb :=
  ⟨(h.snd.put h.kept).1, h.fst.other h.ne1 (h.snd.ne h.fst).symm, (h.snd.put h.kept).2, h.ne1, h.ne2⟩

theorem turns_calls (n : Int) (hn0 : 0 ≤ n) (hn1 : n ≤ 255) (ts : List Ty) (hts : ∀ t ∈ ts, t.Ok) : PCall Try.prog 3 [vU8 n, .sl (Ty.vs ts)] (vB true) := by
  intro σ π
  refine acalls_aw Try.func3 rfl (by kernel_rfl) (by kernel_rfl) ?_
  refine AW.cut [] mixed 2 (ι := { _u : Unit // n ≤ 20 ∧ ts.length ≤ 10 }) (fun _ => { T := tOf [(0, tV (vU8 n)), (1, tV (.sl (Ty.vs ts))), (4, tV (vB false))], L := lOf [], σ := σ, π := π }) ?_ ?_
  · conv => whnf
    cases h1 : decide (n > 20)
    · conv => whnf
      refine (great_calls ts hts).use ?_
      cases h2 : (decide (ts.length > 10) || ts.any tooGreat)
      · conv => whnf
        refine ⟨⟨(), by simp at h1; omega, by simp at h2; omega⟩, le_of ⟨.rfl, .rfl, .rfl, trivial⟩ trivial rfl (fun _ _ h => h) (fun _ _ h => h)⟩
      · conv => whnf
        refine awake_calls.use ?_
        conv => whnf
        exact ⟨σ, π, fun _ _ h => h, fun _ _ h => h, congrArg Res.ret (rfl), rfl, rfl⟩
    · conv => whnf
      refine awake_calls.use ?_
      conv => whnf
      exact ⟨σ, π, fun _ _ h => h, fun _ _ h => h, congrArg Res.ret (rfl), rfl, rfl⟩
  rintro ⟨_, hn, hl⟩
  refine AW.cut [] mixed 2 (ι := { p : Store × Nat × Nat × Nat × Nat // Two σ p.1 p.2.1 p.2.2.1 n (fun _ => none) p.2.2.2.1 p.2.2.2.2 n (fun _ => none) }) (fun p => { T := tOf [(0, tV (vU8 n)), (1, tV (.sl (Ty.vs ts))), (4, tV (vB false)), (5, tV (.ref p.1.2.1 0)), (6, tV (.ref p.1.2.2.2.1 0))], L := lOf [], σ := p.1.1, π := π }) ?_ ?_
  · conv => whnf
    refine (new_calls σ π).mono fun r σ1 π1 ⟨a, am, a1, a2, a3, a4, a5, a6⟩ => ?_
    subst a4; subst a6
    have hA := OwnB.new (σ0 := σ) (fun _ _ h => h) a1 a2 a3 a5
    conv => whnf
    refine (new_calls σ1 π1).mono fun r σ2 π2 ⟨b, bm, b1, b2, b3, b4, b5, b6⟩ => ?_
    subst b4; subst b6
    have hB := OwnB.new hA.1 b1 b2 b3 b5
    have hT : Two σ σ2 a am 0 (fun _ => none) b bm 0 (fun _ => none) := by
      have h1 := hB.2.2 a _ hA.2.1.bk
      have h2 := hB.2.2 am _ hA.2.1.mp
      exact ⟨hB.1, ⟨h1.1, h2.1, hA.2.1.l0, hA.2.1.m0⟩, hB.2.1, h1.2.1, h2.2.2⟩
    clear hA hB a5 b5
    conv => whnf
    refine ⟨{ p : Nat × Store // (p.1 : Int) ≤ n ∧ Two σ p.2 a am p.1 (fun _ => none) b bm p.1 (fun _ => none) }, fun p => { T := tOf [(0, tV (vU8 n)), (1, tV (.sl (Ty.vs ts))), (4, tV (vB false)), (5, tV (.ref a 0)), (6, tV (.ref b 0)), (7, tV (vI p.1.1))], L := lOf [], σ := p.1.2, π := π2 }, fun p => n.toNat - p.1.1, ⟨⟨(0, σ2), hn0, hT⟩, ?_⟩, ?_⟩
    · exact le_of ⟨.rfl, .rfl, .rfl, .rfl, .rfl, .rfl, trivial⟩ trivial rfl (fun _ _ h => h) (fun _ _ h => h)
    · rintro ⟨⟨i, σ3⟩, hi, hT⟩
      dsimp only at hi hT
      conv => whnf
      rw [wrap_in (n := n) (by omega) (by omega)]
      cases h5 : decide ((i : Int) < n)
      · simp at h5
        have e : (i : Int) = n := by omega
        rw [e] at hT
        conv => whnf
        exact ⟨⟨⟨σ3, a, am, b, bm⟩, hT⟩, le_of ⟨.rfl, .rfl, .rfl, .rfl, .rfl, trivial⟩ trivial rfl (fun _ _ h => h) (fun _ _ h => h)⟩
      · simp at h5
        conv => whnf
        refine (fresh_calls hT.fst.bk (by omega) π2).mono fun r σ4 π4 ⟨c1, c2, c3⟩ => ?_
        subst c1; subst c3
        have hT4 := hT.fresh1 (na' := (i : Int) + 1)
        rw [← c2] at hT4
        conv => whnf
        refine (fresh_calls hT4.snd.bk (by omega) π4).mono fun r σ5 π5 ⟨d1, d2, d3⟩ => ?_
        subst d1; subst d3
        have hT5 := hT4.fresh2 (nb' := (i : Int) + 1)
        rw [← d2] at hT5
        conv => whnf
        exact ⟨⟨(i + 1, σ5), by show ((i + 1 : Nat) : Int) ≤ n; omega, hT5⟩, le_of ⟨.rfl, .rfl, .rfl, .rfl, .rfl, .succ (n := 2 ^ 30) (show i < 2 ^ 30 by omega) (by omega), trivial⟩ trivial rfl (fun _ _ h => h) (fun _ _ h => h), by show n.toNat - (i + 1) < n.toNat - i; omega⟩
  rintro ⟨⟨σ3, a, am, b, bm⟩, hT⟩
  dsimp only at hT
  refine AW.cut [] mixed 2 (ι := { p : Own × Toks // Mine π p.2 3 p.1 }) (fun p => { T := tOf [(0, tV (vU8 n)), (1, tV (.sl (Ty.vs ts))), (4, tV (vB false)), (5, tV (.ref a 0)), (6, tV (.ref b 0)), (8, .val (.sl (Ty.vs ts.reverse)) p.1.1)], L := lOf [], σ := σ3, π := p.1.2 }) ?_ ?_
  · conv => whnf
    refine ⟨{ p : Nat × Own × Toks // p.1 ≤ ts.length ∧ Mine π p.2.2 3 p.2.1 }, fun p => { T := tOf [(0, tV (vU8 n)), (1, tV (.sl (Ty.vs ts))), (4, tV (vB false)), (5, tV (.ref a 0)), (6, tV (.ref b 0)), (8, .val (.sl (Ty.vs (ts.reverse.take p.1.1))) p.1.2.1), (9, tV (vI ((ts.length : Int) - 1 - p.1.1)))], L := lOf [], σ := σ3, π := p.1.2.2 }, fun p => ts.length - p.1.1, ⟨⟨(0, .full, π), Nat.zero_le _, .full π 3⟩, ?_⟩, ?_⟩
    · refine le_of ⟨.rfl, .rfl, .rfl, .rfl, .rfl, .rfl, ?_, trivial⟩ trivial rfl (fun _ _ h => h) (fun _ _ h => h)
      show TLe (tV (vI (IntKind.i64.wrap (((Ty.vs ts).length : Int) - 1)))) (tV (vI ((ts.length : Int) - 1 - (0 : Nat))))
      rw [Ty.vs_length, wrap_in (by omega) (by omega), show (ts.length : Int) - 1 - (0 : Nat) = (ts.length : Int) - 1 by omega]
      exact .rfl
    · rintro ⟨⟨j, o, π2⟩, hj, hmine⟩
      dsimp only at hj hmine
      have hown := hmine.2
      have hlen : (Ty.vs (ts.reverse.take j)).length ≤ 10 := by rw [Ty.vs_length]; simp; omega
      rcases hown with rfl | rfl | ⟨tk, rfl, hm2, hm3⟩
      all_goals
        conv => whnf
        cases h5 : decide ((ts.length : Int) - 1 - (j : Int) ≥ 0)
        · simp at h5
          conv => whnf
          have key : ∀ o, TLe (.val (.sl (Ty.vs (ts.reverse.take j))) o) (.val (.sl (Ty.vs ts.reverse)) o) := fun o => by rw [List.take_of_length_le (by simp; omega)]; exact .rfl
          exact ⟨⟨⟨_, π2⟩, hmine⟩, le_of ⟨.rfl, .rfl, .rfl, .rfl, .rfl, key _, trivial⟩ trivial rfl (fun _ _ h => h) (fun _ _ h => h)⟩
        · simp at h5
          have hj' : ((ts.length : Int) - 1 - (j : Int)).toNat < ts.length := by omega
          obtain ⟨tk', tn, us, ht⟩ := Ty.at hj'
          have hrev : ts.reverse.take j ++ [Ty.mk tk' tn us] = ts.reverse.take (j + 1) := by
            have : ts.reverse[j]? = some (Ty.mk tk' tn us) := by
              rw [List.getElem?_reverse (by omega), ← ht]; congr 1; omega
            rw [List.take_add_one, this]; rfl
          conv => whnf
          refine ⟨Ty.v (.mk tk' tn us), ⟨show (0 : Int) ≤ (ts.length : Int) - 1 - (j : Int) by omega, Ty.vs_get ht, rfl⟩, ?_⟩
          conv => whnf
          refine ⟨Ty.vs_cells, Ty.vs_cells (l := [.mk tk' tn us]), ?_, ?_⟩
          · show ((Ty.vs (ts.reverse.take j)).length + 1) * 40 ≤ 140737488355328
            omega
          · conv => whnf
            first
            | (intro t' ht'
               conv => whnf
               refine ⟨⟨(j + 1, .tok t', upd π2 t' (some 3)), by show j + 1 ≤ ts.length; omega, hmine.new ht'⟩, le_of ⟨.rfl, .rfl, .rfl, .rfl, .rfl, ?_, ?_, trivial⟩ trivial rfl (fun _ _ h => h) (fun _ _ h => h), by show ts.length - (j + 1) < ts.length - j; omega⟩
               · show TLe (.val (.sl (Ty.vs (ts.reverse.take j) ++ [(Ty.mk tk' tn us).v])) (.tok t')) (.val (.sl (Ty.vs (ts.reverse.take (j + 1)))) (.tok t'))
                 rw [Ty.vs_snoc, hrev]; exact .rfl
               · show TLe (tV (vI (IntKind.i64.wrap ((ts.length : Int) - 1 - (j : Int) - 1)))) (tV (vI ((ts.length : Int) - 1 - ((j + 1 : Nat) : Int))))
                 rw [wrap_in (by omega) (by omega), show (ts.length : Int) - 1 - (j : Int) - 1 = (ts.length : Int) - 1 - ((j + 1 : Nat) : Int) by omega]; exact .rfl)
            | (refine ⟨hm3, fun t' ht' => ?_⟩
               conv => whnf
               refine ⟨⟨(j + 1, .tok t', upd (upd π2 tk none) t' (some 3)), by show j + 1 ≤ ts.length; omega, hmine.more ht'⟩, le_of ⟨.rfl, .rfl, .rfl, .rfl, .rfl, ?_, ?_, trivial⟩ trivial rfl (fun _ _ h => h) (fun _ _ h => h), by show ts.length - (j + 1) < ts.length - j; omega⟩
               · show TLe (.val (.sl (Ty.vs (ts.reverse.take j) ++ [(Ty.mk tk' tn us).v])) (.tok t')) (.val (.sl (Ty.vs (ts.reverse.take (j + 1)))) (.tok t'))
                 rw [Ty.vs_snoc, hrev]; exact .rfl
               · show TLe (tV (vI (IntKind.i64.wrap ((ts.length : Int) - 1 - (j : Int) - 1)))) (tV (vI ((ts.length : Int) - 1 - ((j + 1 : Nat) : Int))))
                 rw [wrap_in (by omega) (by omega), show (ts.length : Int) - 1 - (j : Int) - 1 = (ts.length : Int) - 1 - ((j + 1 : Nat) : Int) by omega]; exact .rfl)
  rintro ⟨⟨o, π2⟩, hmine⟩
  dsimp only at hmine
  refine AW.of [] mixed ?_
  have hlr : ts.reverse.length ≤ 2 ^ 47 := by simp; omega
  conv => whnf
  refine (Join_calls hT.fst.bk hT.fst.mp (.empty (by omega)) π2 ts hts (by omega)).mono fun r σ4 π4 ⟨b1, m1, lm1, c1, c2, c3, c4, c5, c6, c7⟩ => ?_
  subst c1; subst c6
  have hJ1 := hT.fst.join hT.kept c2 c3 c4 c5
  have hS := hJ1.2.2 _ _ _ _ hT.ne1.symm hT.ne2.symm hT.snd
  clear c2 c3 c4 c5
  conv => whnf
  refine (Join_calls hS.1.bk hS.1.mp (.empty (by omega)) π4 ts.reverse (fun t ht => hts t (by simpa using ht)) hlr).mono fun r σ5 π5 ⟨b2, m2, lm2, d1, d2, d3, d4, d5, d6, d7⟩ => ?_
  subst d1; subst d6
  have hJ2 := hS.1.join hJ1.1 d2 d3 d4 d5
  have hF := hJ2.2.2 _ _ _ _ hT.ne1 (Ne.symm hS.2) hJ1.2.1
  clear d2 d3 d4 d5
  have hrev := JoinPost.rev (.empty (by omega)) (fun τ => alike_rev) (by simp) c7 d7
  refine Exists.elim hrev.2.2.2 fun s hs => ?_
  have hb1 := hrev.2.1
  have hb2 := hrev.2.2.1
  have hbb := hrev.1
  clear hrev c7 d7 hJ1 hS
  subst hbb
  cases b1
  all_goals
    conv => whnf
    refine ⟨{ i : Nat // (i : Int) ≤ n }, fun i => { T := tOf [(0, tV (vU8 n)), (4, tV (vB false)), (5, tV (.ref a 0)), (6, tV (.ref b 0)), (10, tV (vI i.1))], L := lOf [], σ := σ5, π := π5 }, fun i => n.toNat - i.1, ⟨⟨0, hn0⟩, ?_⟩, ?_⟩
    · exact le_of ⟨.rfl, .rfl, .rfl, .rfl, .rfl, trivial⟩ trivial rfl (fun _ _ h => h) (fun _ _ h => h)
    · rintro ⟨k, hk⟩
      conv => whnf
      rw [wrap_in (n := n) (by omega) (by omega)]
      cases h5 : decide ((k : Int) < n)
      · conv => whnf
        refine awake_calls.use ?_
        conv => whnf
        exact ⟨σ, π, hJ2.1, hmine.1, rfl, rfl, rfl⟩
      · simp at h5
        have hg := Sn.gd hb1 hs.1 (v := k) (by omega) h5
        refine Exists.elim (senseR_shape ((tv k).may && (tv k).known n) (s k) 2000 (fun _ => hg.ok)) fun xk hx => Exists.elim hx fun xw hx => Exists.elim hx fun xs hx => Exists.elim hx fun e hx => ?_
        have hx0 := hx.1
        have hx := hx.2
        have hx1 := Sense_var hF.1.bk hF.1.mp hb1 hs.1 k (by omega) (by omega) (most := 2000) (by omega) (by omega) π5
        have hx2 := Sense_var hJ2.2.1.bk hJ2.2.1.mp hb2 hs.2 k (by omega) (by omega) (most := 2000) (by omega) (by omega) π5
        rw [hx.1] at hx1 hx2
        have hsame := same_calls _ (.mk xk xw xs) hx.2
        rw [Ty.same_refl] at hsame
        rcases hx0 with rfl | rfl | rfl
        all_goals
          conv => whnf
          refine (law_v k).use ?_
          conv => whnf
          refine hx1.use ?_
          conv => whnf
          refine (law_v k).use ?_
          conv => whnf
          refine hx2.use ?_
          conv => whnf
          refine hsame.use ?_
          conv => whnf
          exact ⟨⟨k + 1, by show ((k + 1 : Nat) : Int) ≤ n; omega⟩, le_of ⟨.rfl, .rfl, .rfl, .rfl, .succ (n := 2 ^ 30) (show k < 2 ^ 30 by omega) (by omega), trivial⟩ trivial rfl (fun _ _ h => h) (fun _ _ h => h), by show n.toNat - (k + 1) < n.toNat - k; omega⟩
end Go.Lf
