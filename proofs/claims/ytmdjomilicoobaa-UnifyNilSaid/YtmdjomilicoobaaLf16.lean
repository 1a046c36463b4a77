/- A small logic over the kit's calls. Part 16: words for its use. -/
import Derived.Test.YtmdjomilicoobaaLf15
namespace Go.Lf
open Go

/-- A function that gives a value, and leaves all as it was. -/
def PCall (P : Program) (f : FuncId) (args : List V) (r : V) : Prop := ∀ σ π, ACalls P f args σ π fun x σ' π' => x = .ret r ∧ σ' = σ ∧ π' = π

/-- Its use. -/
theorem PCall.use {P : Program} {f : FuncId} {args : List V} {r : V} (h : PCall P f args r) {σ : Store} {π : Toks} {R : Res → Store → Toks → Prop} (hr : R (.ret r) σ π) : ACalls P f args σ π R :=
  (h σ π).mono fun _ _ _ ⟨h1, h2, h3⟩ => by subst h1; subst h2; subst h3; exact hr

/-- Temporaries out of a list. -/
def tOf : List (Nat × TV) → Nat → TV
  | [] => fun _ => tvAny
  | (t, v) :: r => fun n => bif Nat.beq n t then v else tOf r n

def lOf : List (Nat × List Cell) → Nat → Option (List Cell)
  | [] => fun _ => none
  | (k, c) :: r => fun n => bif Nat.beq n k then some c else lOf r n

def LeT (X : St) : List (Nat × TV) → Prop
  | [] => True
  | (t, v) :: r => TLe (X.T t) v ∧ LeT X r

def LeL (X : St) : List (Nat × List Cell) → Prop
  | [] => True
  | (k, c) :: r => (∃ cs, X.L k = some cs ∧ CLe cs c) ∧ LeL X r

def wfB (lT : List (Nat × TV)) (lL : List (Nat × List Cell)) : Bool := match lT with
  | [] => true
  | (_, .lref k _) :: r => (lL.any fun p => Nat.beq p.1 k) && wfB r lL
  | _ :: r => wfB r lL

theorem tOf_le {X : St} : ∀ {l : List (Nat × TV)}, LeT X l → ∀ t, TLe (X.T t) (tOf l t)
  | [], _, t => .inl rfl
  | (t', v) :: r, h, t => by
    show TLe (X.T t) (bif Nat.beq t t' then v else tOf r t)
    by_cases e : t = t'
    · subst e; simp; exact h.1
    · have : Nat.beq t t' = false := by rw [← Bool.not_eq_true, Nat.beq_eq]; exact e
      rw [this]; exact tOf_le h.2 t

theorem lOf_le {X : St} : ∀ {l : List (Nat × List Cell)}, LeL X l → ∀ k c, lOf l k = some c → ∃ cs, X.L k = some cs ∧ CLe cs c
  | [], _, k, c, h => by cases h
  | (k', c') :: r, h, k, c, hc => by
    have hc' : (bif Nat.beq k k' then some c' else lOf r k) = some c := hc
    by_cases e : k = k'
    · subst e; simp at hc'; subst hc'; exact h.1
    · have : Nat.beq k k' = false := by rw [← Bool.not_eq_true, Nat.beq_eq]; exact e
      rw [this] at hc'; exact lOf_le h.2 k c hc'

theorem lOf_some : ∀ {l : List (Nat × List Cell)} {k : Nat}, (l.any fun p => Nat.beq p.1 k) = true → lOf l k ≠ none
  | [], k, h => by cases h
  | (k', c) :: r, k, h => by
    show (bif Nat.beq k k' then some c else lOf r k) ≠ none
    simp only [List.any_cons, Bool.or_eq_true, Nat.beq_eq] at h
    by_cases e : k = k'
    · subst e; simp
    · have : Nat.beq k k' = false := by rw [← Bool.not_eq_true, Nat.beq_eq]; exact e
      rw [this]
      exact lOf_some (h.resolve_left (fun e' => e e'.symm))

theorem wf_of : ∀ {lT : List (Nat × TV)} {lL : List (Nat × List Cell)}, wfB lT lL = true → ∀ t k off, tOf lT t = .lref k off → lOf lL k ≠ none
  | [], _, _, t, k, off, h => by cases h
  | (t', v) :: r, lL, hw, t, k, off, h => by
    have h' : (bif Nat.beq t t' then v else tOf r t) = .lref k off := h
    have hr : wfB r lL = true := by
      cases v with
      | lref k' off' => simp only [wfB, Bool.and_eq_true] at hw; exact hw.2
      | _ => exact hw
    by_cases e : t = t'
    · subst e
      simp at h'
      subst h'
      simp only [wfB, Bool.and_eq_true] at hw
      exact lOf_some hw.1
    · have : Nat.beq t t' = false := by rw [← Bool.not_eq_true, Nat.beq_eq]; exact e
      rw [this] at h'; exact wf_of hr t k off h'

/-- A state that says less, out of lists. -/
theorem le_of {X : St} {lT : List (Nat × TV)} {lL : List (Nat × List Cell)} {σ : Store} {π : Toks} (hT : LeT X lT) (hL : LeL X lL) (hw : wfB lT lL = true) (hσ : ∀ l o, σ l = some o → X.σ l = some o) (hπ : ∀ t s, π t = some s → X.π t = some s) :
    Le X { T := tOf lT, L := lOf lL, σ, π } :=
  ⟨tOf_le hT, lOf_le hL, hσ, hπ, wf_of hw⟩

theorem TLe.rfl {r : TV} : TLe r r := .inr (.inl _root_.rfl)
theorem TLe.own {v : V} {o : Own} : TLe (.val v o) (.val v .no) := .inr (.inr (.inl ⟨v, o, _root_.rfl, _root_.rfl⟩))
theorem CLe.rfl {c : List Cell} : CLe c c := ⟨_root_.rfl, fun i c c' h h' => by rw [h] at h'; cases h'; exact .inl _root_.rfl⟩

/-- A whole number's value. -/
abbrev vI (n : Int) : V := .raw (.int .i64 n)
abbrev vU8 (n : Int) : V := .raw (.int .u8 n)
abbrev vB (b : Bool) : V := .raw (.bool b)
abbrev tV (v : V) : TV := .val v .no

theorem wrap_in {n : Int} (h1 : -9223372036854775808 ≤ n) (h2 : n ≤ 9223372036854775807) : IntKind.i64.wrap n = n := IntWalk.i64_in _ ⟨h1, h2⟩
end Go.Lf
