/- The book, walked: does a variable stand in a type's sense? -/
import Derived.Test.YtmdjomilicoobaaUn8
namespace Go.Lf
open Go Go.Proofs
set_option maxRecDepth 10000
set_option maxHeartbeats 1000000

abbrev bpO (q : Int → Bool) : Option Obj := some (.map fun k => bif q k then some (vB true) else none)
def qset (q : Int → Bool) (w : Int) : Int → Bool := fun k => decide (k = w) || q k

theorem bq_true {q : Int → Bool} {w : Int} {z : V} (hx : q w = true) : some (TV.val ((bif q w then some (vB true) else none).getD z) Own.no) = some (TV.val (vB true) Own.no) := by rw [hx]; rfl
theorem bq_false {q : Int → Bool} {w : Int} {z : V} (hx : q w = false) : some (TV.val ((bif q w then some (vB true) else none).getD z) Own.no) = some (TV.val z Own.no) := by rw [hx]; rfl

theorem upd_upd {α : Type} (f : Nat → α) (k : Nat) (x y : α) : upd (upd f k x) k y = upd f k y := by
  funext n
  by_cases e : n = k
  · subst e; rw [upd_same, upd_same]
  · rw [upd_ne _ _ e, upd_ne _ _ e, upd_ne _ _ e]

def InPost (m : Mp) (v : Int) (t : Ty) (q : Int → Bool) (b : Bool) (q' : Int → Bool) : Prop :=
  (b = true → Reach m v t) ∧ (b = false → ¬ Reach m v t ∧ ∀ w, q' w = true → q w = true ∨ ¬ Reach m v (tv w))

theorem InPost.no {m : Mp} {v : Int} {t : Ty} {q q' : Int → Bool} (h1 : ¬ Reach m v t) (h2 : ∀ w, q' w = true → q w = true ∨ ¬ Reach m v (tv w)) : InPost m v t q false q' := ⟨fun e => (by cases e), fun _ => ⟨h1, h2⟩⟩
theorem InPost.yes {m : Mp} {v : Int} {t : Ty} {q q' : Int → Bool} (h : Reach m v t) : InPost m v t q true q' := ⟨fun _ => h, fun e => (by cases e)⟩

theorem Reach.tv_iff {m : Mp} {v w : Int} {ks : List Ty} : Reach m v (.mk 5 w ks) ↔ v = w ∨ ∃ x, m w = some x ∧ Reach m v x := by
  constructor
  · exact Reach.of_var
  · rintro (e | ⟨x, h1, h2⟩)
    · rw [e]; exact .here (.var ks)
    · exact .step (.var ks) h1 h2

theorem qset_obj (q : Int → Bool) (w : Int) : (some (Obj.map fun n' => if n' = w then some (vB true) else bif q n' then some (vB true) else none)) = bpO (qset q w) := by
  congr 2
  funext k
  unfold qset
  by_cases e : k = w <;> simp [e]

theorem in_calls {σ : Store} {l lm lq : Nat} {n : Int} {m : Mp} (h : σ l = bookO n lm) (hm : σ lm = mpO m) (hb : Bk n m) (hq1 : lq ≠ l) (hq2 : lq ≠ lm) (π : Toks) (v : Int) {ρ : Int → Nat} (hρ : Rank m ρ) :
    ∀ (K : Nat) (t : Ty), (∀ w, Ty.Hv w t → ρ w < K) → Gd n t → ∀ q : Int → Bool, (∀ w, q w = true → Reach m w t → ¬ Reach m v (tv w)) →
      ACalls Try.prog 38 [.ref l 0, vI v, t.v, .mp lq] (upd σ lq (bpO q)) π fun x σ' π' => ∃ b q', x = .ret (vB b) ∧ σ' = upd σ lq (bpO q') ∧ π' = π ∧ InPost m v t q b q' := by
  have hl : ∀ x, upd σ lq x l = bookO n lm := fun x => by rw [upd_ne _ _ (fun e => hq1 e.symm)]; exact h
  have hlm : ∀ x, upd σ lq x lm = mpO m := fun x => by rw [upd_ne _ _ (fun e => hq2 e.symm)]; exact hm
  intro K
  induction K using Nat.strongRecOn with
  | _ K ihK =>
    refine Ty.ind fun k w ks ih hK hg q hq => ?_
    refine acalls_of [] mixed Try.func38 rfl (by kernel_rfl) (by kernel_rfl) ?_
    conv => whnf
    cases h1 : (k == 5)
    · simp at h1
      have hlen : ks.length ≤ 2 ^ 47 := by cases hg.ok with | mk _ _ hl _ => exact hl
      conv => whnf
      refine ⟨{ p : Nat × (Int → Bool) // p.1 ≤ ks.length ∧ (∀ u, p.2 u = true → q u = true ∨ ¬ Reach m v (tv u)) ∧ ∀ j t, j < p.1 → ks[j]? = some t → ¬ Reach m v t },
        fun p => { T := tOf [(0, tV (.ref l 0)), (1, tV (vI v)), (3, tV (.mp lq)), (47, tV (.sl (Ty.vs ks))), (48, tV (vI (Ty.vs ks).length)), (49, tV (vI p.1.1))], L := lOf [], σ := upd σ lq (bpO p.1.2), π := π }, fun p => ks.length - p.1.1, ⟨⟨(0, q), Nat.zero_le _, fun u hu => .inl hu, fun j t hj => absurd hj (Nat.not_lt_zero _)⟩, ?_⟩, ?_⟩
      · exact le_of ⟨.rfl, .rfl, .rfl, .rfl, .rfl, .rfl, trivial⟩ trivial rfl (fun _ _ h => h) (fun _ _ h => h)
      · rintro ⟨⟨i, qi⟩, hi, hqi, hall⟩
        conv => whnf
        rw [Ty.vs_length]
        cases h5 : decide ((i : Int) < (ks.length : Int))
        · simp at h5
          conv => whnf
          refine ⟨_, _, fun _ _ h => h, fun _ _ h => h, false, qi, rfl, rfl, rfl, .no (fun hr => ?_) hqi⟩
          obtain ⟨t, ht, hr⟩ := hr.of_mk h1
          obtain ⟨j, hj, e⟩ := List.getElem_of_mem ht
          exact hall j t (by show j < i; omega) (by rw [List.getElem?_eq_getElem hj, e]) hr
        · simp at h5
          obtain ⟨tk, tn, ts, ht⟩ := Ty.at h5
          have hmem := List.mem_of_getElem? ht
          conv => whnf
          refine ⟨Ty.v (.mk tk tn ts), ⟨by omega, Ty.vs_get ht, rfl⟩, ?_⟩
          conv => whnf
          refine (ih (.mk tk tn ts) hmem (fun w hw => hK w (.kid h1 hmem hw)) (hg.kid hmem) qi fun u hu hr hv => ?_).mono fun r σ' π' ⟨b, q', h6, h7, h8, h9⟩ => ?_
          · rcases hqi u hu with h10 | h10
            · exact hq u h10 (hr.kid h1 hmem) hv
            · exact h10 hv
          · subst h6; subst h7; subst h8
            conv => whnf
            cases b
            · conv => whnf
              obtain ⟨h10, h11⟩ := h9.2 rfl
              refine ⟨⟨(i + 1, q'), h5, fun u hu => ?_, fun j t hj hjt => ?_⟩, le_of ⟨.rfl, .rfl, .rfl, .rfl, .rfl, .succ h5 hlen, trivial⟩ trivial rfl (fun _ _ h => h) (fun _ _ h => h), by show ks.length - (i + 1) < ks.length - i; omega⟩
              · rcases h11 u hu with h12 | h12
                · exact hqi u h12
                · exact .inr h12
              · by_cases e : j = i
                · subst e; rw [ht] at hjt; cases hjt; exact h10
                · exact hall j t (by have : j < i + 1 := hj; show j < i; omega) hjt
            · conv => whnf
              exact ⟨_, _, fun _ _ h => h, fun _ _ h => h, true, q', rfl, rfl, rfl, .yes ((h9.1 rfl).kid h1 hmem)⟩
    · simp at h1; subst h1
      conv => whnf
      cases h2 : (w == v)
      · conv => whnf
        refine ⟨_, hl _, _, rfl, ?_⟩
        conv => whnf
        cases hx : m w with
        | none =>
          refine ⟨_, hlm _, _, lk_none hx, ?_⟩
          conv => whnf
          refine ⟨And.intro (hlm _) (And.intro (hl _) trivial), ?_⟩
          conv => whnf
          refine ⟨trivial, ?_⟩
          conv => whnf
          simp at h2
          refine ⟨_, π, fun _ _ h => h, fun _ _ h => h, false, q, rfl, rfl, rfl, .no (fun hr => ?_) fun w hw => .inl hw⟩
          rcases hr.of_var with e | ⟨x, hx', _⟩
          · exact h2 e.symm
          · rw [hx] at hx'; cases hx'
        | some x =>
          obtain ⟨xk, xw, xs⟩ := x
          refine ⟨_, hlm _, _, lk_some hx, ?_⟩
          conv => whnf
          refine ⟨And.intro (hlm _) (And.intro (hl _) trivial), ?_⟩
          conv => whnf
          refine ⟨trivial, ?_⟩
          conv => whnf
          simp at h2
          cases h3 : q w
          · refine ⟨_, upd_same .., _, bq_false h3, ?_⟩
            conv => whnf
            refine ⟨_, upd_same .., ?_⟩
            conv => whnf
            have hx' : ∀ u, Ty.Hv u (.mk xk xw xs) → ρ u < ρ w := hρ w _ hx
            have key := ihK (ρ w) (hK w (.var ks)) (.mk xk xw xs) hx' (hb.ok _ _ hx).2.2 (qset q w) fun u hu hr hv => by
              by_cases e : u = w
              · subst e
                exact absurd (hr.rank hρ hx') (Nat.lt_irrefl _)
              · exact hq u (by simpa [qset, e] using hu) (.step (.var ks) hx hr) hv
            rw [show upd σ lq (bpO (qset q w)) = upd (upd σ lq (bpO q)) lq (some (Obj.map fun n' => if n' = w then some (vB true) else bif q n' then some (vB true) else none)) by rw [qset_obj, upd_upd]] at key
            refine key.mono fun r σ' π' ⟨b, q', h4, h5, h6, h7⟩ => ?_
            subst h4; subst h5; subst h6
            conv => whnf
            refine ⟨_, _, fun _ _ h => h, fun _ _ h => h, b, q', rfl, rfl, rfl, fun e => Reach.tv_iff.2 (.inr ⟨_, hx, h7.1 e⟩), fun e => ?_⟩
            obtain ⟨h8, h9⟩ := h7.2 e
            have h10 : ¬ Reach m v (.mk 5 w ks) := fun hr => by
              rcases Reach.tv_iff.1 hr with e | ⟨y, hy, hr⟩
              · exact h2 e.symm
              · rw [hx] at hy; cases hy; exact h8 hr
            refine ⟨h10, fun u hu => ?_⟩
            rcases h9 u hu with h11 | h11
            · by_cases e : u = w
              · subst e
                exact .inr fun hr => h10 (Reach.tv_iff.2 (Reach.tv_iff.1 hr))
              · exact .inl (by simpa [qset, e] using h11)
            · exact .inr h11
          · refine ⟨_, upd_same .., _, bq_true h3, ?_⟩
            conv => whnf
            refine ⟨_, π, fun _ _ h => h, fun _ _ h => h, false, q, rfl, rfl, rfl, .no (fun hr => ?_) fun w hw => .inl hw⟩
            refine hq w h3 (.here (.var ks)) ?_
            rcases hr.of_var with e | ⟨y, hy, hr⟩
            · exact absurd e.symm h2
            · exact .step (.var _) hy hr
      · simp at h2
        conv => whnf
        refine ⟨_, π, fun _ _ h => h, fun _ _ h => h, true, q, rfl, rfl, rfl, .yes ?_⟩
        rw [h2]; exact .here (.var ks)
end Go.Lf
