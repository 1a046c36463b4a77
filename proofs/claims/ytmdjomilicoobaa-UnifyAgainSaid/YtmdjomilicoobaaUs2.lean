/- The book, walked: a type's sense. -/
import Derived.Test.YtmdjomilicoobaaUs1
import Derived.Test.YtmdjomilicoobaaUo2
namespace Go.Lf
open Go Go.Proofs
set_option maxRecDepth 10000
set_option maxHeartbeats 2000000

theorem Ty.vs_snoc (l : List Ty) (x : Ty) : Ty.vs l ++ [x.v] = Ty.vs (l ++ [x]) := by rw [Ty.vs_map, Ty.vs_map]; simp

theorem Ty.vs_cells {l : List Ty} : ∀ e ∈ Ty.vs l, e.cells.length = 3 := by
  rw [Ty.vs_map]
  intro e he
  obtain ⟨t, _, rfl⟩ := List.mem_map.1 he
  obtain ⟨k, n, ks⟩ := t
  rfl

/-- A room that the call itself has made. -/
def Mine (π π' : Toks) (s : Nat) (o : Own) : Prop := (∀ t x, π t = some x → π' t = some x) ∧ (o = .nil ∨ o = .full ∨ ∃ t, o = .tok t ∧ π t = none ∧ π' t = some s)

theorem Mine.start (π : Toks) (s : Nat) : Mine π π s .nil := ⟨fun _ _ h => h, .inl rfl⟩

theorem Mine.full (π : Toks) (s : Nat) : Mine π π s .full := ⟨fun _ _ h => h, .inr (.inl rfl)⟩

theorem Mine.new {π π' : Toks} {s : Nat} {o : Own} (h : Mine π π' s o) {t : Nat} (ht : π' t = none) : Mine π (upd π' t (some s)) s (.tok t) :=
  ⟨fun u x hu => by rw [upd_ne _ _ (fun e => by subst e; rw [h.1 _ _ hu] at ht; cases ht)]; exact h.1 _ _ hu, .inr (.inr ⟨t, rfl, (by
    cases e : π t with
    | none => rfl
    | some x => rw [h.1 _ _ e] at ht; cases ht), upd_same ..⟩)⟩

theorem Mine.more {π π' : Toks} {s t : Nat} (h : Mine π π' s (.tok t)) {t' : Nat} (ht : upd π' t none t' = none) : Mine π (upd (upd π' t none) t' (some s)) s (.tok t') := by
  obtain ⟨h1, h2 | h2 | ⟨t0, h2, h3, h4⟩⟩ := h
  · cases h2
  · cases h2
  · cases h2
    have hk : ∀ u x, π u = some x → upd π' t none u = some x := fun u x hu => by
      rw [upd_ne _ _ (fun e => by subst e; rw [h3] at hu; cases hu)]; exact h1 _ _ hu
    exact ⟨fun u x hu => by rw [upd_ne _ _ (fun e => by subst e; rw [hk _ _ hu] at ht; cases ht)]; exact hk _ _ hu, .inr (.inr ⟨t', rfl, (by
      cases e : π t' with
      | none => rfl
      | some x => rw [hk _ _ e] at ht; cases ht), upd_same ..⟩)⟩

theorem sense_gen {B : V} {σ : Store} {f : Ty → Ty} {t : Ty} {H : Int → Int → List Ty → Prop}
    (hB : (B = nilB ∧ ∀ k w ks, t = .mk k w ks → H k w ks) ∨ (∃ l, B = .ref l 0) ∧ ∀ π, ACalls Try.prog 32 [B, t.v] σ π fun x σ' π' => (∃ k w hs, x = .ret (Ty.mk k w hs).v ∧ H k w hs) ∧ σ' = σ ∧ π' = π)
    (hH : ∀ k w hs, H k w hs → f t = .mk k w (hs.map f) ∧ hs.length ≤ 2 ^ 20 ∧ ∀ x ∈ hs, ∀ c : Int, 0 ≤ c → c ≤ 2 ^ 47 → ∀ π, SCall Try.prog 24 [B, x.v, vI c] σ π (.tup [((f x).cut c).1.v, vI ((f x).cut c).2]))
    {left : Int} (h0 : 0 ≤ left) (h1 : left ≤ 2 ^ 47) (π : Toks) : SCall Try.prog 24 [B, t.v, vI left] σ π (.tup [((f t).cut left).1.v, vI ((f t).cut left).2]) := by
  obtain ⟨tk, tw, ts⟩ := t
  refine acalls_aw Try.func24 rfl (by kernel_rfl) (by kernel_rfl) ?_
  refine AW.cut [] mixed 2 (ι := { p : Int × Int × List Ty // H p.1 p.2.1 p.2.2 })
    (fun p => { T := tOf [(0, tV B), (2, tV (vI left)), (4, .lref 4 0), (6, .lref 6 0)], L := lOf [(4, [(vU8 p.1.1, .no), (vI p.1.2.1, .no), (.sl (Ty.vs p.1.2.2), .no)]), (6, [(vU8 0, .no), (vI 0, .no), (.sl [], .nil)])], σ := σ, π := π }) ?_ ?_
  · rcases hB with ⟨rfl, hB⟩ | ⟨⟨l, rfl⟩, hB⟩
    · conv => whnf
      exact ⟨⟨⟨tk, tw, ts⟩, hB _ _ _ rfl⟩, le_of ⟨.rfl, .rfl, .rfl, .rfl, trivial⟩ ⟨⟨_, rfl, .rfl⟩, ⟨_, rfl, .rfl⟩, trivial⟩ rfl (fun _ _ h => h) (fun _ _ h => h)⟩
    · conv => whnf
      refine (hB π).mono fun r σ' π' ⟨⟨k, w, hs, a1, a2⟩, a3, a4⟩ => ?_
      subst a1; subst a3; subst a4
      conv => whnf
      exact ⟨⟨⟨k, w, hs⟩, a2⟩, le_of ⟨.rfl, .rfl, .rfl, .rfl, trivial⟩ ⟨⟨_, rfl, .rfl⟩, ⟨_, rfl, .rfl⟩, trivial⟩ rfl (fun _ _ h => h) (fun _ _ h => h)⟩
  rintro ⟨⟨k, w, hs⟩, hh⟩
  dsimp only at hh
  obtain ⟨hf, hlen, hcall⟩ := hH k w hs hh
  refine AW.of [] mixed ?_
  conv => whnf
  refine ⟨{ p : Nat × Int × List Ty × Own × Toks // p.1 ≤ hs.length ∧ -1 ≤ p.2.1 ∧ p.2.1 ≤ 2 ^ 47 ∧ p.2.2.1.length = p.1 ∧ Mine π p.2.2.2.2 3 p.2.2.2.1 ∧
      p.2.2.1 ++ (Ty.cuts ((hs.map f).drop p.1) p.2.1).1 = (Ty.cuts (hs.map f) (left - 1)).1 ∧ (Ty.cuts ((hs.map f).drop p.1) p.2.1).2 = (Ty.cuts (hs.map f) (left - 1)).2 },
    fun p => { T := tOf [(0, tV B), (2, tV (vI p.1.2.1)), (6, .lref 6 0), (8, .lref 8 0), (25, tV (.sl (Ty.vs hs))), (26, tV (vI (Ty.vs hs).length)), (27, tV (vI p.1.1))], L := lOf [(6, [(vU8 0, .no), (vI 0, .no), (.sl [], .nil)]), (8, [(vU8 k, .no), (vI w, .no), (.sl (Ty.vs p.1.2.2.1), p.1.2.2.2.1)])], σ := σ, π := p.1.2.2.2.2 }, fun p => hs.length - p.1.1, ⟨⟨(0, left - 1, [], .nil, π), Nat.zero_le _, by show -1 ≤ left - 1; omega, by show left - 1 ≤ 2 ^ 47; omega, rfl, .start π 3, rfl, rfl⟩, ?_⟩, ?_⟩
  · refine le_of ⟨.rfl, ?_, .rfl, .rfl, .rfl, .rfl, .rfl, trivial⟩ ⟨⟨_, rfl, .rfl⟩, ⟨_, rfl, .rfl⟩, trivial⟩ rfl (fun _ _ h => h) (fun _ _ h => h)
    show TLe (tV (vI (IntKind.i64.wrap (left - 1)))) _
    rw [wrap_in (by omega) (by omega)]; exact .rfl
  · rintro ⟨⟨i, c, out, o, π1⟩, hi, hc0, hc1, hol, hmine, hout, hcut⟩
    dsimp only at hi hc0 hc1 hol hmine hout hcut
    have fin : (Ty.cuts ((hs.map f).drop i) c).1 = [] → (Ty.cuts ((hs.map f).drop i) c).2 = c → V.tup [(Ty.mk k w out).v, vI c] = V.tup [((f (.mk tk tw ts)).cut left).1.v, vI ((f (.mk tk tw ts)).cut left).2] := fun e1 e2 => by
      rw [hf, Ty.cut, ← hout, ← hcut, e1, e2, List.append_nil]
    have next : ∀ (r : Ty) (c' : Int), out ++ (r :: (Ty.cuts ((hs.map f).drop (i + 1)) c').1) = (Ty.cuts (hs.map f) (left - 1)).1 → (out ++ [r]).length = i + 1 ∧ (out ++ [r]) ++ (Ty.cuts ((hs.map f).drop (i + 1)) c').1 = (Ty.cuts (hs.map f) (left - 1)).1 := fun _ _ h => ⟨by simp [hol], by rw [← h]; simp⟩
    have hlen2 : hs.length ≤ 2 ^ 47 := by omega
    have hol2 : (Ty.vs out).length ≤ 2 ^ 20 := by rw [Ty.vs_length]; omega
    have hown := hmine.2
    rcases hown with rfl | rfl | ⟨tk', rfl, hm2, hm3⟩
    all_goals
      conv => whnf
      rw [Ty.vs_length]
      cases h5 : decide ((i : Int) < (hs.length : Int))
      · simp at h5
        conv => whnf
        refine ⟨_, π, fun _ _ h => h, hmine.1, congrArg Res.ret (fin ?_ ?_), rfl, rfl⟩
        · rw [List.drop_eq_nil_of_le (by simpa using h5)]; rfl
        · rw [List.drop_eq_nil_of_le (by simpa using h5)]; rfl
      · simp at h5
        obtain ⟨xk, xw, xs, hx⟩ := Ty.at h5
        have hmem := List.mem_of_getElem? hx
        conv => whnf
        refine ⟨Ty.v (.mk xk xw xs), ⟨by omega, Ty.vs_get hx, rfl⟩, ?_⟩
        conv => whnf
        cases h6 : decide (c < 0)
        · simp at h6
          conv => whnf
          refine (hcall _ hmem c h6 hc1 π1).use ?_
          have hle := Ty.cut_le (f (.mk xk xw xs)) h6
          have hM : (hs.map f)[i]? = some (f (.mk xk xw xs)) := by simp [hx]
          rw [Ty.cuts_drop hM h6] at hout hcut
          generalize (f (.mk xk xw xs)).cut c = r at hle hout hcut ⊢
          obtain ⟨⟨rk, rw_, rs⟩, c'⟩ := r
          dsimp only at hle hout hcut
          have hn := next _ _ hout
          conv => whnf
          refine ⟨Ty.vs_cells, Ty.vs_cells (l := [.mk rk rw_ rs]), ?_, ?_⟩
          · show ((Ty.vs out).length + 1) * 40 ≤ 140737488355328
            omega
          · conv => whnf
            first
            | (intro t' ht'
               conv => whnf
               refine ⟨⟨(i + 1, c', out ++ [Ty.mk rk rw_ rs], .tok t', upd π1 t' (some 3)), h5, hle.1, Int.le_trans hle.2 hc1, hn.1, hmine.new ht', hn.2, hcut⟩, le_of ⟨.rfl, .rfl, .rfl, .rfl, .rfl, .rfl, .succ h5 hlen2, trivial⟩ ⟨⟨_, rfl, .rfl⟩, ⟨_, rfl, ?_⟩, trivial⟩ rfl (fun _ _ h => h) (fun _ _ h => h), by show hs.length - (i + 1) < hs.length - i; omega⟩
               show CLe [(vU8 k, .no), (vI w, .no), (.sl (Ty.vs out ++ [(Ty.mk rk rw_ rs).v]), .tok t')] _
               rw [Ty.vs_snoc]; exact .rfl)
            | (refine ⟨hm3, fun t' ht' => ?_⟩
               conv => whnf
               refine ⟨⟨(i + 1, c', out ++ [Ty.mk rk rw_ rs], .tok t', upd (upd π1 tk' none) t' (some 3)), h5, hle.1, Int.le_trans hle.2 hc1, hn.1, hmine.more ht', hn.2, hcut⟩, le_of ⟨.rfl, .rfl, .rfl, .rfl, .rfl, .rfl, .succ h5 hlen2, trivial⟩ ⟨⟨_, rfl, .rfl⟩, ⟨_, rfl, ?_⟩, trivial⟩ rfl (fun _ _ h => h) (fun _ _ h => h), by show hs.length - (i + 1) < hs.length - i; omega⟩
               show CLe [(vU8 k, .no), (vI w, .no), (.sl (Ty.vs out ++ [(Ty.mk rk rw_ rs).v]), .tok t')] _
               rw [Ty.vs_snoc]; exact .rfl)
        · simp at h6
          conv => whnf
          refine ⟨_, π, fun _ _ h => h, hmine.1, congrArg Res.ret (fin ?_ ?_), rfl, rfl⟩
          · rw [Ty.cuts_neg _ h6]
          · rw [Ty.cuts_neg _ h6]

theorem sense_nil : ∀ (t : Ty), t.Ok → t.may = true → t.known 0 = true → ∀ (σ : Store) (left : Int), 0 ≤ left → left ≤ 2 ^ 47 → ∀ π, SCall Try.prog 24 [nilB, t.v, vI left] σ π (.tup [(t.cut left).1.v, vI (t.cut left).2]) := by
  refine Ty.ind fun k w ks ih hok hmay hkn σ left h0 h1 π => ?_
  have hg : Gd 0 (.mk k w ks) := ⟨hok, hmay, hkn⟩
  refine sense_gen (f := fun t => t) (H := fun k' w' ks' => k' = k ∧ w' = w ∧ ks' = ks) (.inl ⟨rfl, fun k' w' ks' e => by cases e; exact ⟨rfl, rfl, rfl⟩⟩) ?_ h0 h1 π
  rintro k' w' hs ⟨rfl, rfl, rfl⟩
  refine ⟨by simp, ?_, fun x hx c hc0 hc1 π' => ?_⟩
  · have := hg.may
    rw [Ty.may_mk, Bool.and_eq_true] at this
    have h3 := this.1
    simp [nodeMay, kidsN] at h3
    have h4 := h3.1.1
    split at h4
    · omega
    · split at h4
      · omega
      · split at h4 <;> omega
  · have hx' := hg.kid hx
    exact ih x hx hx'.ok hx'.may hx'.known σ c hc0 hc1 π'

theorem Gd.few {n k w : Int} {ks : List Ty} (h : Gd n (.mk k w ks)) : ks.length ≤ 2 ^ 20 := by
  have := h.may
  rw [Ty.may_mk, Bool.and_eq_true] at this
  have h3 := this.1
  simp [nodeMay, kidsN] at h3
  have h4 := h3.1.1
  split at h4
  · omega
  · split at h4
    · omega
    · split at h4 <;> omega

theorem sense_calls {n : Int} {m : Mp} (hb : Bk n m) {s : Int → Ty} (hsn : Sn m s) {σ : Store} {l lm : Nat} (h : σ l = bookO n lm) (hm : σ lm = mpO m) :
    ∀ (K : Nat) (t : Ty), (t.sub s).size = K → Gd n t → ∀ (left : Int), 0 ≤ left → left ≤ 2 ^ 47 → ∀ π, SCall Try.prog 24 [.ref l 0, t.v, vI left] σ π (.tup [((t.sub s).cut left).1.v, vI ((t.sub s).cut left).2]) := by
  intro K
  induction K using Nat.strongRecOn with
  | _ K ihK =>
    intro t hK hg left h0 h1 π
    refine sense_gen (f := Ty.sub s) (H := fun k w hs => ∃ u, Root m t u ∧ Hd m u (.mk k w hs)) (.inr ⟨⟨l, rfl⟩, fun π => ?_⟩) ?_ h0 h1 π
    · refine (head_calls h hm hb π t).mono fun r σ' π' ⟨⟨⟨k, w, hs⟩, y, a1, a2, a3⟩, a4, a5⟩ => ⟨⟨k, w, hs, a1, y, a2, a3⟩, a4, a5⟩
    · rintro k w hs ⟨u, a2, a3⟩
      have gu := a2.links.gd hb hg
      have gh := a3.gd hb gu
      have e : t.sub s = (Ty.mk k w hs).sub s := (a2.links.sub hsn.sol).trans (a3.sub hsn.sol)
      by_cases hk : k = 5
      · subst hk
        obtain ⟨e1, e2⟩ := a3.var a2 rfl
        have e3 := gh.var.1
        subst e3
        refine ⟨?_, by simp, fun x hx => by cases hx⟩
        rw [e, Ty.sub_var, hsn w]
        simp only [Ty.num] at e2
        rw [e2]; rfl
      · refine ⟨by rw [e, Ty.sub_mk s hk], gh.few, fun x hx c hc0 hc1 π' => ?_⟩
        refine ihK _ ?_ x rfl (gh.kid hx) c hc0 hc1 π'
        rw [← hK, e, Ty.sub_mk s hk, Ty.size]
        have := Ty.sizes_mem (List.mem_map_of_mem (f := Ty.sub s) hx)
        omega

/-- What 'Sense' tells of a type whose sense is this. -/
def senseR (ok : Bool) (t : Ty) (most : Int) : V :=
  match ok with
  | false => .tup [(Ty.mk 0 0 []).v, vI 1]
  | true => match decide ((t.size : Int) ≤ most) with
    | true => .tup [t.v, vI 0]
    | false => .tup [(Ty.mk 0 0 []).v, vI 3]

theorem Sense_calls {B : V} {σ : Store} {nB : Int} {f : Ty → Ty} (π : Toks) (hv : ∀ π, SCall Try.prog 17 [B] σ π (vI nB)) (t : Ty) (ht : t.Ok)
    (hs : (t.may && t.known nB) = true → ∀ left : Int, 0 ≤ left → left ≤ 2 ^ 47 → ∀ π, SCall Try.prog 24 [B, t.v, vI left] σ π (.tup [((f t).cut left).1.v, vI ((f t).cut left).2])) {most : Int} (h0 : 0 ≤ most) (h1 : most ≤ 2 ^ 47) :
    SCall Try.prog 12 [B, t.v, vI most] σ π (senseR (t.may && t.known nB) (f t) most) := by
  obtain ⟨k, w, ks⟩ := t
  refine acalls_of [] mixed Try.func12 rfl (by kernel_rfl) (by kernel_rfl) ?_
  conv => whnf
  refine (knows_calls B nB σ π (hv π) [.mk k w ks] (by simp) (by simpa using ht)).use ?_
  have e0 : (([Ty.mk k w ks].all Ty.may) && [Ty.mk k w ks].all (Ty.known nB)) = ((Ty.mk k w ks).may && (Ty.mk k w ks).known nB) := by simp
  rw [e0]
  cases hk : ((Ty.mk k w ks).may && (Ty.mk k w ks).known nB)
  · conv => whnf
    exact ⟨σ, π, fun _ _ h => h, fun _ _ h => h, congrArg Res.ret (rfl), rfl, rfl⟩
  · have e1 : (if (0 : Int) > most then 0 else most) = most := by split <;> omega
    have hs' := hs hk most h0 h1 π
    have e2 : ((f (.mk k w ks)).cut most).2 < 0 ↔ ¬ ((f (.mk k w ks)).size : Int) ≤ most := by
      rw [Ty.cut_left, Ty.left_of _ _ h0]
      split <;> omega
    have e3 := Ty.cut_fit (f (.mk k w ks)) most
    generalize (f (.mk k w ks)).cut most = r at hs' e2 e3
    obtain ⟨⟨rk, rw_, rs⟩, c⟩ := r
    dsimp only at hs' e2 e3
    conv => whnf
    have hs2 : SCall Try.prog 24 [B, (Ty.mk k w ks).v, vI (if (0 : Int) > most then 0 else most)] σ π (.tup [(Ty.mk rk rw_ rs).v, vI c]) := by rw [e1]; exact hs'
    refine hs2.use ?_
    conv => whnf
    cases h5 : decide (c < 0)
    · simp at h5
      have h6 : ((f (.mk k w ks)).size : Int) ≤ most := by omega
      conv => whnf
      refine ⟨σ, π, fun _ _ h => h, fun _ _ h => h, congrArg Res.ret ?_, rfl, rfl⟩
      · unfold senseR
        have e4 := e3 h6
        rw [decide_eq_true h6, ← e4]
        rfl
    · simp at h5
      conv => whnf
      refine ⟨σ, π, fun _ _ h => h, fun _ _ h => h, congrArg Res.ret ?_, rfl, rfl⟩
      · unfold senseR
        rw [decide_eq_false (e2.1 h5)]
        rfl
end Go.Lf
