/- The references of layer 8, walked. -/
import Derived.Test.YtmdjomilicoobaaTy
namespace Go.Lf
open Go Go.Proofs
set_option maxRecDepth 10000
set_option maxHeartbeats 1000000

theorem Ty.ind {p : Ty → Prop} (h : ∀ k n ks, (∀ t ∈ ks, p t) → p (.mk k n ks)) : ∀ t, p t
  | .mk k n ks => h k n ks (fun t _ => Ty.ind h t)

/-- What a type that was read is: its numbers are of their kinds, no row of kids is beyond all measure. -/
inductive Ty.Ok : Ty → Prop
  | mk {k n : Int} {ks : List Ty} (hk : 0 ≤ k ∧ k ≤ 255) (hn : -9223372036854775808 ≤ n ∧ n ≤ 9223372036854775807) (hl : ks.length ≤ 2 ^ 47) (h : ∀ t ∈ ks, Ty.Ok t) : Ty.Ok (.mk k n ks)

theorem Ty.at {ks : List Ty} {i : Nat} (h : i < ks.length) : ∃ k n ts, ks[i]? = some (.mk k n ts) := by
  cases e : ks[i] with
  | mk k n ts => exact ⟨k, n, ts, by simp [h, e]⟩

/-- Does something hold of all nodes? -/
def Ty.all (p : Int → Int → Nat → Bool) : Ty → Bool
  | .mk k n ks => p k n ks.length && ks.attach.all fun ⟨t, _⟩ => Ty.all p t

theorem Ty.all_mk (p : Int → Int → Nat → Bool) (k n : Int) (ks : List Ty) : Ty.all p (.mk k n ks) = (p k n ks.length && ks.all (Ty.all p)) := by
  rw [Ty.all]
  congr 1
  rw [Bool.eq_iff_iff]
  simp

theorem all_true {α : Type} {p : α → Bool} {ks : List α} (h : ∀ (j : Nat) (t : α), j < ks.length → ks[j]? = some t → p t = true) : ks.all p = true := by
  rw [List.all_eq_true]
  intro t ht
  obtain ⟨i, hi, rfl⟩ := List.getElem_of_mem ht
  exact h i _ hi (by simp)

theorem all_false {α : Type} {p : α → Bool} {ks : List α} {i : Nat} {t : α} (h : ks[i]? = some t) (hp : p t = false) : ks.all p = false := by
  rw [Bool.eq_false_iff]
  intro hh
  rw [List.all_eq_true.1 hh t (List.mem_of_getElem? h)] at hp
  cases hp

theorem wrap_succ {i n : Nat} (h : i < n) (hn : n ≤ 2 ^ 47) : IntKind.i64.wrap ((i : Int) + 1) = ((i + 1 : Nat) : Int) := by
  rw [wrap_in (by omega) (by omega)]; omega

/-- The index of a loop, all ahead of which is in order. -/
abbrev Upto {α : Type} (ks : List α) (p : α → Bool) : Type := { i : Nat // i ≤ ks.length ∧ ∀ (j : Nat) (t : α), j < i → ks[j]? = some t → p t = true }

def Upto.zero {α : Type} (ks : List α) (p : α → Bool) : Upto ks p := ⟨0, Nat.zero_le _, fun j t h => absurd h (Nat.not_lt_zero _)⟩

def Upto.succ {α : Type} {ks : List α} {p : α → Bool} (i : Upto ks p) {t : α} (h : ks[i.1]? = some t) (hp : p t = true) : Upto ks p :=
  ⟨i.1 + 1, (List.getElem?_eq_some_iff.1 h).1, fun j u hj hu => by
    by_cases e : j = i.1
    · subst e; rw [h] at hu; cases hu; exact hp
    · exact i.2.2 j u (by omega) hu⟩

theorem Upto.done {α : Type} {ks : List α} {p : α → Bool} (i : Upto ks p) (h : ¬ i.1 < ks.length) : ks.all p = true :=
  all_true fun j t hj ht => i.2.2 j t (by omega) ht

/-- A node of a type that may be. -/
def kidsN (k : Int) : Int := if k = 1 ∨ k = 5 then 0 else if k = 3 then 1 else if k = 2 ∨ k = 4 then 2 else -1

def nodeMay (k n : Int) (l : Nat) : Bool := (l : Int) == kidsN k && !decide (n < 0) && !(decide (n > 0) && k != 5)

def Ty.may : Ty → Bool := Ty.all nodeMay

theorem has_calls (kind : Int) : ∀ t : Ty, t.Ok → PCall Try.prog 16 [t.v, vU8 kind] (vB (!Ty.all (fun k _ _ => k != kind) t)) := by
  refine Ty.ind fun k n ks ih ht => ?_
  cases ht with
  | mk hk hn hl hall =>
  intro σ π
  refine acalls_of [] mixed Try.func16 rfl (by kernel_rfl) (by kernel_rfl) ?_
  rw [Ty.all_mk]
  conv => whnf
  cases h1 : (k == kind)
  · conv => whnf
    refine ⟨Upto ks (Ty.all (fun k _ _ => k != kind)), fun i => { T := tOf [(1, tV (vU8 kind)), (2, .lref 2 0), (12, tV (vI (Ty.vs ks).length)), (13, tV (vI i.1))], L := lOf [(2, [(vU8 k, .no), (vI n, .no), (.sl (Ty.vs ks), .no)])], σ := σ, π := π }, fun i => ks.length - i.1, ⟨.zero _ _, ?_⟩, fun i => ?_⟩
    · exact le_of ⟨.rfl, .rfl, .rfl, .rfl, trivial⟩ ⟨⟨_, rfl, .rfl⟩, trivial⟩ rfl (fun _ _ h => h) (fun _ _ h => h)
    · conv => whnf
      rw [Ty.vs_length]
      cases h2 : decide ((i.1 : Int) < (ks.length : Int))
      · conv => whnf
        refine ⟨σ, π, fun _ _ h => h, fun _ _ h => h, congrArg Res.ret (?_ : vB false = _), rfl, rfl⟩
        simp at h2
        rw [i.done (by omega)]
        simp at h1
        simp [h1]
      · simp at h2
        obtain ⟨tk, tn, ts, ht⟩ := Ty.at h2
        conv => whnf
        refine ⟨Ty.v (.mk tk tn ts), ⟨by omega, Ty.vs_get ht, rfl⟩, ?_⟩
        conv => whnf
        refine (ih _ (List.mem_of_getElem? ht) (hall _ (List.mem_of_getElem? ht))).use ?_
        conv => whnf
        cases h3 : Ty.all (fun k _ _ => k != kind) (.mk tk tn ts)
        · conv => whnf
          refine ⟨σ, π, fun _ _ h => h, fun _ _ h => h, congrArg Res.ret (?_ : vB true = _), rfl, rfl⟩
          rw [all_false ht h3]; simp
        · conv => whnf
          refine ⟨i.succ ht h3, ?_, ?_⟩
          · refine le_of ⟨.rfl, .rfl, .rfl, ?_, trivial⟩ ⟨⟨_, rfl, .rfl⟩, trivial⟩ rfl (fun _ _ h => h) (fun _ _ h => h)
            show TLe (tV (vI (IntKind.i64.wrap ((i.1 : Int) + 1)))) _
            rw [wrap_succ h2 hl]
            exact .rfl
          · show ks.length - (i.1 + 1) < ks.length - i.1
            omega
  · conv => whnf
    refine ⟨σ, π, fun _ _ h => h, fun _ _ h => h, congrArg Res.ret (?_ : vB true = _), rfl, rfl⟩
    simp at h1
    simp [h1]
end Go.Lf
