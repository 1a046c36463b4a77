/- A small logic over the kit's calls. Part 13: regions in the text's order, code, functions. -/
import Derived.Test.YtmdjomilicoobaaLf12
import Derived.Orders
namespace Go.Lf
open Go

/-- How code is left. -/
inductive Ex where
  | normal
  | exit (id : Nat)
  | ret
  | panic (v : V)

def tvAny : TV := .val .any .no
/-- What an operation that is passed over leaves. -/
def tvU : TV := .val (.raw (.tuple #[])) .no

theorem repU (g : G) (lb : Nat → Option Nat) (w : World) : RepT g lb w tvU undef := ⟨.raw _, trivial⟩

/-- Whether the operation is to be run, and what follows. -/
def vcG (ops : Array Oper) (o : Oper) (X : St) (run skip : St → Prop) : Prop := match o.guard with
  | none => run X
  | some (j, want) => match (ops[j]?).bind (·.dst) with
    | some t => match X.T t with
      | .val (.raw (.bool b)) ow => match b with
        | true => match want with
          | true => run (X.put (some t) (.val (.raw (.bool true)) ow))
          | false => skip (X.put (some t) (.val (.raw (.bool true)) ow))
        | false => match want with
          | true => skip (X.put (some t) (.val (.raw (.bool false)) ow))
          | false => run (X.put (some t) (.val (.raw (.bool false)) ow))
      | .val (.raw (.tuple _)) _ => skip X
      | _ => False
    | none => False

noncomputable def vcOps (P : Program) (esc : List Nat) (ops : Array Oper) (l : List Oper) : St → (St → Prop) → (V → St → Prop) → Prop :=
  List.rec (motive := fun _ => St → (St → Prop) → (V → St → Prop) → Prop) (fun X K _ => K X)
    (fun o _ ih X K Qp => vcG ops o X (fun X => vcOp P esc o X (fun X' => ih X' K Qp) Qp) (fun X => ih (X.put o.dst tvU) K Qp)) l

theorem vcOps_cons (P : Program) (esc : List Nat) (ops : Array Oper) (o : Oper) (rest : List Oper) (X : St) (K : St → Prop) (Qp : V → St → Prop) :
    vcOps P esc ops (o :: rest) X K Qp = vcG ops o X (fun X => vcOp P esc o X (fun X' => vcOps P esc ops rest X' K Qp) Qp) (fun X => vcOps P esc ops rest (X.put o.dst tvU) K Qp) := rfl

/-- Whatever order the tape picks. -/
def vcAny (P : Program) (esc : List Nat) (ops : Array Oper) (K : St → Prop) (Qp : V → St → Prop) : Nat → Array Bool → St → Prop
  | 0, listed, X => Region.ready .any ops listed = [] ∧ K X
  | fuel + 1, listed, X =>
    (Region.ready .any ops listed = [] → K X) ∧
    ∀ i ∈ Region.ready .any ops listed, match ops[i]? with
      | none => vcAny P esc ops K Qp fuel (listed.setIfInBounds i true) X
      | some o => vcG ops o X (fun X => vcOp P esc o X (fun X' => vcAny P esc ops K Qp fuel (listed.setIfInBounds i true) X') Qp) (fun X => vcAny P esc ops K Qp fuel (listed.setIfInBounds i true) (X.put o.dst tvU))

section
variable {P : Program} {B : Nat} {g0 : G} {w0 : World} {N : Nat} {D : List Deferred} {g : G} {lb : Nat → Option Nat} {a : Act} {w : World} {X : St} {esc : List Nat}

/-- A temporary whose value is known is known by it. -/
theorem In.known (h : In B g0 w0 N D g lb X a w) {t : Nat} {b : Bool} {o : Own} (ht : X.T t = .val (.raw (.bool b)) o) : a.tmps[t]? = some (.bool b) ∧ In B g0 w0 N D g lb (X.put (some t) (.val (.raw (.bool b)) o)) a w := by
  have h1 := h.conc.tmps t
  rw [ht] at h1
  have h2 := rep_raw h1
  have h3 : a.tmps[t]? = some (.bool b) := by
    rw [Array.getD_eq_getD_getElem?] at h2
    cases h4 : a.tmps[t]? with
    | none => rw [h4] at h2; simp [undef] at h2
    | some x => rw [h4] at h2; simp at h2; rw [h2]
  refine ⟨h3, h.ext, { inv := h.conc.inv, big := h.conc.big, loc := h.conc.loc, inj := h.conc.inj, tmps := fun t' => ?_, wf := fun t' k off hh => ?_ }, h.size, h.defs⟩
  · show RepT g lb w (upd X.T t _ t') _
    by_cases e : t' = t
    · subst e; rw [upd_same]; exact h1
    · rw [upd_ne _ _ e]; exact h.conc.tmps t'
  · have hh' : upd X.T t (.val (.raw (.bool b)) o) t' = .lref k off := hh
    by_cases e : t' = t
    · subst e; rw [upd_same] at hh'; cases hh'
    · rw [upd_ne _ _ e] at hh'; exact h.conc.wf t' k off hh'

theorem vcG_sound {ops : Array Oper} {o : Oper} (h : In B g0 w0 N D g lb X a w) {run skip : St → Prop} (hv : vcG ops o X run skip) {p : Prop}
    (h1 : ∀ X, run X → In B g0 w0 N D g lb X a w → Region.wanted o (yielded ops a.tmps) = true → p) (h2 : ∀ X, skip X → In B g0 w0 N D g lb X a w → Region.wanted o (yielded ops a.tmps) = false → p) : p := by
  unfold vcG at hv
  split at hv
  · rename_i hg
    exact h1 X hv h (by simp [Region.wanted, hg])
  · rename_i j want hg
    split at hv
    · rename_i t ht
      split at hv
      · rename_i b o' hT
        obtain ⟨h3, h4⟩ := h.known hT
        have hy : yielded ops a.tmps j = some b := by
          unfold yielded
          simp [ht, h3]
        cases b <;> cases want <;> first
          | exact h1 _ hv h4 (by simp [Region.wanted, hg, hy])
          | exact h2 _ hv h4 (by simp [Region.wanted, hg, hy])
      · rename_i u o' hT
        have h3 := h.conc.tmps t
        rw [hT] at h3
        have h4 := rep_raw h3
        have hy : yielded ops a.tmps j = none := by
          unfold yielded
          rw [Array.getD_eq_getD_getElem?] at h4
          cases h5 : a.tmps[t]? with
          | none => simp [ht, h5]
          | some x => rw [h5] at h4; simp at h4; simp [ht, h5, h4]
        exact h2 _ hv h (by simp [Region.wanted, hg, hy])
      · exact hv.elim
    · exact hv.elim

theorem vcOps_sound {ops : Array Oper} {K : St → Prop} {Qp : V → St → Prop} {Q : Exit → Act → World → Prop}
    (hK : ∀ g lb X a w, K X → In B g0 w0 N D g lb X a w → Q .normal a w)
    (hQ : ∀ g lb X v x a w, Qp v X → In B g0 w0 N D g lb X a w → Rep g w v x → Q (.panic [{ v := x, recovered := false }]) a w) :
    ∀ (rest : List Oper) (k : Nat), (∀ j, rest[j]? = ops[k + j]?) → (∀ o ∈ rest, ∀ d, o.dst = some d → d < N) → ∀ (g : G) (lb : Nat → Option Nat) (X : St) (a : Act) (w : World), In B g0 w0 N D g lb X a w →
      vcOps P esc ops rest X K Qp → wpOps P ops Q ((List.range rest.length).map (k + ·)) a w
  | [], k, _, _, g, lb, X, a, w, h, hv => hK _ _ _ _ _ hv h
  | o :: rest, k, hj, hd, g, lb, X, a, w, h, hv => by
    have ho : ops[k]? = some o := by simpa using (hj 0).symm
    have hrest := vcOps_sound hK hQ rest (k + 1) (fun j => by have := hj (j + 1); simpa [Nat.add_assoc, Nat.add_comm 1 j] using this) (fun o' ho' => hd o' (by simp [ho']))
    have hl : (List.range (o :: rest).length).map (k + ·) = k :: (List.range rest.length).map (k + 1 + ·) := by
      simp only [List.length_cons, List.range_succ_eq_map, List.map_cons, Nat.add_zero, List.map_map]
      congr 1
      apply List.map_congr_left
      intro j _
      simp; omega
    rw [hl]
    simp only [wpOps, ho]
    rw [vcOps_cons] at hv
    refine vcG_sound h hv (fun X hX hin hw => ?_) (fun X hX hin hw => ?_)
    · rw [if_pos hw]
      exact .inl (vcOp_sound hin (fun t e => hd o (by simp) t e) hX (fun g lb X a w hk hin' => hrest g lb X a w hin' hk) hQ)
    · rw [if_neg (by rw [hw]; simp)]
      exact hrest g lb _ _ w (hin.put (repU _ _ _) (fun k off e => (noLref e).elim) (fun t e => hd o (by simp) t e)) hX

theorem vcAny_sound {ops : Array Oper} {K : St → Prop} {Qp : V → St → Prop} {Q : Exit → Act → World → Prop}
    (hK : ∀ g lb X a w, K X → In B g0 w0 N D g lb X a w → Q .normal a w)
    (hQ : ∀ g lb X v x a w, Qp v X → In B g0 w0 N D g lb X a w → Rep g w v x → Q (.panic [{ v := x, recovered := false }]) a w) (hd : ∀ (i : Nat) (o : Oper), ops[i]? = some o → ∀ d, o.dst = some d → d < N) :
    ∀ (fuel : Nat) (listed : Array Bool) (g : G) (lb : Nat → Option Nat) (X : St) (a : Act) (w : World), In B g0 w0 N D g lb X a w → vcAny P esc ops K Qp fuel listed X → wpAny P .any ops Q fuel listed a w
  | 0, listed, g, lb, X, a, w, h, hv => ⟨hv.1, hK _ _ _ _ _ hv.2 h⟩
  | fuel + 1, listed, g, lb, X, a, w, h, hv => by
    refine ⟨fun h0 => hK _ _ _ _ _ (hv.1 h0) h, fun i hi => ?_⟩
    have h1 := hv.2 i hi
    have ih := fun g lb X a w => vcAny_sound hK hQ hd fuel (listed.setIfInBounds i true) g lb X a w
    unfold wpOp
    cases ho : ops[i]? with
    | none => rw [ho] at h1; exact ih _ _ _ _ _ h h1
    | some o =>
      rw [ho] at h1
      simp only [] at h1 ⊢
      refine vcG_sound h h1 (fun X hX hin hw => ?_) (fun X hX hin hw => ?_)
      · rw [if_pos hw]
        exact .inl (vcOp_sound hin (fun t e => hd i o ho t e) hX (fun g lb X a w hk hin' => ih g lb X a w hin' hk) hQ)
      · rw [if_neg (by rw [hw]; simp)]
        exact ih g lb _ _ w (hin.put (repU _ _ _) (fun k off e => (noLref e).elim) (fun t e => hd i o ho t e)) hX

end
end Go.Lf
