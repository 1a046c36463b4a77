/- A small logic over the kit's calls. Part 17: a body that is cut. -/
import Derived.Test.YtmdjomilicoobaaLf16
namespace Go.Lf
open Go

/-- From this state the code comes to what Q holds of. -/
def AW (P : Program) (c : Code) (Q : Ex → St → Prop) (X : St) : Prop :=
  ∀ B g0 w0 N D g lb a w, dstOk N c = true → In B g0 w0 N D g lb X a w → c.wp P (CQ B g0 w0 N D Q) a w

def headC : Nat → Code → Code
  | n + 1, .seq x y => .seq x (headC n y)
  | _, _ => .skip
def tailC : Nat → Code → Code
  | n + 1, .seq _ y => tailC n y
  | _, c => c

theorem AW.of {P : Program} {c : Code} {Q : Ex → St → Prop} {X : St} (esc : List Nat) (hm : P.follows .mixedOrders = true) (h : vc P esc c Q X) : AW P c Q X :=
  fun _ _ _ _ _ g lb a w hd hin => vc_sound hm c hd Q g lb X a w hin h

theorem AW.le {P : Program} {c : Code} {Q : Ex → St → Prop} {X X' : St} (hl : Le X X') (h : AW P c Q X') : AW P c Q X :=
  fun _ _ _ _ _ g lb a w hd hin => h _ _ _ _ _ g lb a w hd (hin.le hl)

def cutQ (Q : Ex → St → Prop) (K : St → Prop) : Ex → St → Prop
  | .normal, X => K X
  | .exit i, X => Q (.exit i) X
  | .ret, X => Q .ret X
  | .panic v, X => Q (.panic v) X

theorem AW.mono {P : Program} {c : Code} {Q Q' : Ex → St → Prop} {X : St} (h : AW P c Q X) (hq : ∀ e X, Q e X → Q' e X) : AW P c Q' X :=
  fun B g0 w0 N D g lb a w hd hin => wp_mono (h B g0 w0 N D g lb a w hd hin) (CQ.mono hq)

theorem AW.seq {P : Program} {x y : Code} {Q : Ex → St → Prop} {X : St} (h : AW P x (cutQ Q (AW P y Q)) X) : AW P (.seq x y) Q X :=
  fun B g0 w0 N D g lb a w hd hin => by
    simp only [dstOk, Bool.and_eq_true] at hd
    refine wp_seq (wp_mono (h B g0 w0 N D g lb a w hd.1 hin) fun e a' w' hq => ?_)
    cases e with
    | normal => obtain ⟨g', lb', X', h1, h2⟩ := hq; exact h2 _ _ _ _ _ _ _ _ _ hd.2 h1
    | exit id => exact hq
    | ret => exact hq
    | panic ch => exact hq
    | goto l => exact hq
    | outgrown => exact hq

theorem AW.cutK {P : Program} {Q : Ex → St → Prop} {K : St → Prop} (esc : List Nat) (hm : P.follows .mixedOrders = true) : ∀ (n : Nat) (c : Code) {X : St}, vc P esc (headC n c) (cutQ Q K) X → (∀ Y, K Y → AW P (tailC n c) Q Y) → AW P c Q X
  | 0, _, _, h, hk => hk _ h
  | n + 1, .seq x y, X, h, hk => AW.seq (AW.mono (AW.of (Q := seqQ (vc P esc (headC n y)) (cutQ Q K)) esc hm h) fun e X' hq => by
      cases e with
      | normal => exact AW.cutK esc hm n y hq hk
      | exit i => exact hq
      | ret => exact hq
      | panic v => exact hq)
  | n + 1, .skip, _, h, hk => hk _ h
  | n + 1, .region .., _, h, hk => hk _ h
  | n + 1, .cond .., _, h, hk => hk _ h
  | n + 1, .block .., _, h, hk => hk _ h
  | n + 1, .loop .., _, h, hk => hk _ h
  | n + 1, .exit .., _, h, hk => hk _ h
  | n + 1, .ret, _, h, hk => hk _ h
  | n + 1, .rangeFunc .., _, h, hk => hk _ h
  | n + 1, .scope .., _, h, hk => hk _ h
  | n + 1, .label .., _, h, hk => hk _ h
  | n + 1, .goto .., _, h, hk => hk _ h
  | n + 1, .refuse .., _, h, hk => hk _ h

/-- Cut behind n parts: all that comes there is in one of the states Y. -/
theorem AW.cut {P : Program} {Q : Ex → St → Prop} {X : St} {c : Code} (esc : List Nat) (hm : P.follows .mixedOrders = true) (n : Nat) {ι : Type} (Y : ι → St)
    (h : vc P esc (headC n c) (cutQ Q fun X' => ∃ i, Le X' (Y i)) X) (ht : ∀ i, AW P (tailC n c) Q (Y i)) : AW P c Q X :=
  AW.cutK esc hm n c h fun Z ⟨i, hi⟩ => (ht i).le hi

theorem dstOk_mono {N M : Nat} (hNM : N ≤ M) (c : Code) : dstOk N c = true → dstOk M c = true := by
  induction c with
  | region id ops draw =>
    intro h
    simp only [dstOk, Array.all_eq_true_iff_forall_mem] at h ⊢
    intro o ho
    have := h o ho
    split
    · rename_i d hd
      rw [hd] at this
      have h1 : d < N := (Nat.ble_eq ▸ this : d + 1 ≤ N)
      exact Nat.ble_eq_true_of_le (Nat.le_trans h1 hNM)
    · rfl
  | seq x y ihx ihy => intro h; simp only [dstOk, Bool.and_eq_true] at h ⊢; exact ⟨ihx h.1, ihy h.2⟩
  | cond _ x y ihx ihy => intro h; simp only [dstOk, Bool.and_eq_true] at h ⊢; exact ⟨ihx h.1, ihy h.2⟩
  | block _ c ih => exact ih
  | loop c ih => exact ih
  | _ => intro _; rfl

/-- A function's contract out of its body, cut. -/
theorem acalls_aw {P : Program} {f : FuncId} {fn : Func} {c : Code} (hf : P.funcs[f]? = some fn) (hb : fn.body = some c) (hname : (fn.name == "runtime.NumGoroutine") = false) (hok : dstOk fn.ntmps c = true)
    {args : List V} {σ : Store} {π : Toks} {R : Res → Store → Toks → Prop} (h : AW P c (fnQ P fn R) { T := argsT args, L := fun _ => none, σ, π }) : ACalls P f args σ π R := by
  refine ⟨⟨fn, hf, by rw [hb]; rfl, hname⟩, fun g w vs hi hv => calls_of_wp hf hb ?_⟩
  have hN : (vs ++ Array.replicate (fn.ntmps - vs.size) undef).size = vs.size + (fn.ntmps - vs.size) := by simp
  have hin : In w.heap.size g w (vs ++ Array.replicate (fn.ntmps - vs.size) undef).size [] g (fun _ => none) { T := argsT args, L := fun _ => none, σ, π } { tmps := vs ++ Array.replicate (fn.ntmps - vs.size) undef, defers := [] } w := by
    refine ⟨Ext.refl _ _ _, { inv := hi, big := Nat.le_refl _, loc := fun k cs h => (by cases h), inj := fun k k' b h => absurd rfl h, tmps := fun t => ?_, wf := fun t k off h => ?_ }, rfl, rfl⟩
    · show RepT _ _ _ (argsT args t) _
      unfold argsT
      split
      · rename_i v hvt
        have hlt : t < vs.size := by
          have := (List.getElem?_eq_some_iff.1 hvt).1
          have := hv.1
          omega
        refine ⟨hv.2 t v _ hvt ?_, trivial⟩
        rw [Array.getD_eq_getD_getElem?, Array.getElem?_append_left hlt]
        simp [hlt]
      · exact Rep.any_no _
    · have h' : argsT args t = .lref k off := h
      unfold argsT at h'
      split at h' <;> cases h'
  refine wp_mono (h _ _ _ _ _ g _ _ w (dstOk_mono (by rw [hN]; omega) c hok) hin) fun e a' w' hq => ?_
  have fin : ∀ {X' : St} {g' : G} {lb' : Nat → Option Nat}, In w.heap.size g w (vs ++ Array.replicate (fn.ntmps - vs.size) undef).size [] g' lb' X' a' w' → (match resV P X' fn.results.toList with
      | some v => ∃ σ' π', (∀ l o, σ' l = some o → X'.σ l = some o) ∧ (∀ t s, π' t = some s → X'.π t = some s) ∧ R (.ret v) σ' π'
      | none => False) → a'.defers = [] ∧ ∃ v, (results fn a'.tmps).run P w' = .ok v w' ∧ ∃ g' r σ' π', R r σ' π' ∧ Ext w.heap.size g w g' w' ∧ Inv g' w' σ' π' ∧ RepRes g' w' r (.returned v) := fun {X' g' lb'} hin hq => by
    split at hq
    · rename_i v hv
      obtain ⟨σ', π', h1, h2, h3⟩ := hq
      obtain ⟨x, h4, h5⟩ := resV_run hin.conc hv
      exact ⟨hin.defs, x, h4, g', .ret v, σ', π', h3, hin.ext, hin.conc.inv.drop h1 h2, x, rfl, h5⟩
    · exact hq.elim
  cases e with
  | normal => obtain ⟨g', lb', X', h1, h2⟩ := hq; exact fin h1 h2
  | ret => obtain ⟨g', lb', X', h1, h2⟩ := hq; exact fin h1 h2
  | exit id => obtain ⟨g', lb', X', h1, h2⟩ := hq; exact h2.elim
  | panic ch =>
    obtain ⟨g', lb', X', v, x, h1, rfl, h3, σ', π', h4, h5, h6⟩ := hq
    exact ⟨h1.defs, g', .panic v, σ', π', h6, h1.ext, h1.conc.inv.drop h4 h5, x, rfl, h3⟩
  | goto l => exact hq.elim
  | outgrown => exact hq.elim
end Go.Lf
