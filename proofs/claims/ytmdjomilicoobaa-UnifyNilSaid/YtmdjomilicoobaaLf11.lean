/- A small logic over the kit's calls. Part 11: the operations, each with what follows. -/
import Derived.Test.YtmdjomilicoobaaLf10
namespace Go.Lf
open Go

inductive Res where
  | ret (v : V)
  | panic (v : V)

def RepRes (g : G) (w : World) : Res → Ending → Prop
  | .ret v, e => ∃ x, e = .returned x ∧ Rep g w v x
  | .panic v, e => ∃ x, e = .panicked [{ v := x, recovered := false }] ∧ Rep g w v x

def Callable (P : Program) (f : FuncId) : Prop := ∃ fn, P.funcs[f]? = some fn ∧ fn.body.isSome = true ∧ (fn.name == "runtime.NumGoroutine") = false

/-- THE CONTRACT: called with what stands for these values, in a world that the store fits, the function comes to a result that R holds of. -/
def ACalls (P : Program) (f : FuncId) (args : List V) (σ : Store) (π : Toks) (R : Res → Store → Toks → Prop) : Prop :=
  Callable P f ∧ ∀ g w vs, Inv g w σ π → Reps g w args vs →
    Calls P f vs w (fun e w' => ∃ g' r σ' π', R r σ' π' ∧ Ext w.heap.size g w g' w' ∧ Inv g' w' σ' π' ∧ RepRes g' w' r e)

theorem ACalls.mono {P : Program} {f : FuncId} {args : List V} {σ : Store} {π : Toks} {R R' : Res → Store → Toks → Prop} (h : ACalls P f args σ π R) (hr : ∀ r σ' π', R r σ' π' → R' r σ' π') : ACalls P f args σ π R' :=
  ⟨h.1, fun g w vs hi hv => (h.2 g w vs hi hv).mono fun _ _ ⟨g', r, σ', π', h1, h2⟩ => ⟨g', r, σ', π', hr _ _ _ h1, h2⟩⟩

def appInfo (P : Program) (t : TypeId) : Option (Nat × Nat) := match P.underlying t with
  | some (.slice e) => match P.info? e with
    | some i => match i.zero with
      | some z => if z.cells.size = i.size ∧ 0 < i.size ∧ 0 < i.bytes then some (i.size, i.bytes) else none
      | none => none
    | none => none
  | _ => none

def srcV (P : Program) (tx : TypeId) (s : Nat) (tv : TV) : Option (List V) := match P.underlying tx, tv with
  | some (.slice _), .val (.sl xs) _ => some xs
  | some .string, .val (.raw (.string b)) _ => if s = 1 then some (bytesV b) else none
  | _, _ => none

def vcAppend (P : Program) (X : St) (dst : Option Tmp) (t tx : TypeId) (x y : TV) (K : St → Prop) : Prop :=
  match appInfo P t with
  | none => False
  | some (s, by_) => match x, srcV P tx s y with
    | .val (.sl es) o, some xs => (∀ e ∈ es, e.cells.length = s) ∧ (∀ e ∈ xs, e.cells.length = s) ∧ (es.length + xs.length) * by_ ≤ 140737488355328 ∧
      match o with
      | .tok t => X.π t = some s ∧ ∀ t', upd X.π t none t' = none → K (St.put { X with π := upd (upd X.π t none) t' (some s) } dst (.val (.sl (es ++ xs)) (.tok t')))
      | .no => xs = [] ∧ K (X.put dst (.val (.sl es) .no))
      | o => match xs with
        | [] => K (X.put dst (.val (.sl es) o))
        | x :: xs => ∀ t', X.π t' = none → K (St.put { X with π := upd X.π t' (some s) } dst (.val (.sl (es ++ x :: xs)) (.tok t')))
    | _, _ => False

def keyI64 (P : Program) (t : TypeId) : Bool := match P.underlying t with
  | some (.map k _) => match P.underlying k with
    | some (.int .i64) => true
    | _ => false
  | _ => false

/-- An operation that changes something. -/
def vcM (P : Program) (esc : List Nat) (o : Oper) (X : St) (K : St → Prop) (Qp : V → St → Prop) : Prop :=
  match o.op with
  | .store t a x => match (X.eval x).cells? with
    | none => False
    | some new => match X.eval a with
      | .lref k off => match X.L k with
        | some cs => match sz? P t == some new.length && Nat.ble (off + new.length) cs.length with
          | true => K (St.put { X with L := upd X.L k (some (setAt cs off new)) } o.dst (.val .any .no))
          | false => False
        | none => False
      | .val (.ref l off) _ => ∃ cs, X.σ l = some (.var cs) ∧ sz? P t = some new.length ∧ off + new.length ≤ cs.length ∧
          K (St.put { X with σ := upd X.σ l (some (.var (setAt cs off new))) } o.dst (.val .any .no))
      | _ => False
  | .alloc t => match zeroC P t with
    | some cs => ∀ l, X.σ l = none → K (St.put { X with σ := upd X.σ l (some (.var cs)) } o.dst (.val (.ref l 0) .no))
    | none => False
  | .box _ x => match (X.eval x).cells? with
    | some cs => ∀ l, X.σ l = none → K (St.put { X with σ := upd X.σ l (some (.var cs)) } o.dst (.val (.ref l 0) .no))
    | none => False
  | .makeMap _ r => match r with
    | none => ∀ l, X.σ l = none → K (St.put { X with σ := upd X.σ l (some (.map fun _ => none)) } o.dst (.val (.mp l) .no))
    | some _ => False
  | .mapUpdate t m k v => match keyI64 P t with
    | false => False
    | true => match X.eval m, X.eval k, (X.eval v).v? with
      | .val (.mp l) _, .val (.raw (.int .i64 n)) _, some u => ∃ f, X.σ l = some (.map f) ∧
          K (St.put { X with σ := upd X.σ l (some (.map fun n' => if n' = n then some u else f n')) } o.dst (.val .any .no))
      | _, _, _ => False
  | .panic x => match (X.eval x).v? with
    | some (.iface t v) => Qp (.iface t v) X
    | _ => False
  | .call c => match c.callee with
    | .builtin .append => match c.argTypes[0]?, c.argTypes[1]?, c.args[0]?, c.args[1]? with
      | some t, some tx, some x, some y => match c.argTypes.size == 2 && c.args.size == 2 with
        | true => vcAppend P X o.dst t tx (X.eval x) (X.eval y) K
        | false => False
      | _, _, _, _ => False
    | .value f => match X.eval f, X.evals c.args.toList with
      | .val (.fn (.func fid) first cap) _, some vs => ACalls P fid (first ++ vs ++ cap) X.σ X.π fun r σ' π' => match r with
        | .ret v => K (St.put { X with σ := σ', π := π' } o.dst (.val v .no))
        | .panic v => Qp v { X with σ := σ', π := π' }
      | _, _ => False
    | _ => False
  | _ => False

def isM (esc : List Nat) (o : Oper) : Bool := match o.op with
  | .store .. | .mapUpdate .. | .makeMap .. | .panic _ => true
  | .alloc _ | .box .. => match o.dst with
    | some d => esc.elem d
    | none => false
  | .call c => match c.callee with
    | .builtin .append => true
    | .builtin _ => false
    | _ => true
  | _ => false

def vcE (o : Oper) (X : St) (K : St → Prop) : ER → Prop
  | .no => False
  | .ok r => K (X.put o.dst r)
  | .box cs => match o.dst with
    | some d => match X.L d with
      | none => K (St.put { X with L := upd X.L d (some cs) } (some d) (.lref d 0))
      | some _ => False
    | none => False
  | .split b x y => match b with
    | true => K (X.put o.dst x)
    | false => K (X.put o.dst y)
  | .ex p f => ∃ e, p e ∧ K (X.put o.dst (f e))
  | .rd l f => ∃ obj, X.σ l = some obj ∧ ∃ r, f obj = some r ∧ K (X.put o.dst r)

def vcOp (P : Program) (esc : List Nat) (o : Oper) (X : St) (K : St → Prop) (Qp : V → St → Prop) : Prop :=
  match isM esc o with
  | true => vcM P esc o X K Qp
  | false => vcE o X K (ev P esc o X)

/-- The state of a call on its way. -/
structure In (B : Nat) (g0 : G) (w0 : World) (N : Nat) (D : List Deferred) (g : G) (lb : Nat → Option Nat) (X : St) (a : Act) (w : World) : Prop where
  ext : Ext B g0 w0 g w
  conc : Conc B g lb a w X
  size : a.tmps.size = N
  defs : a.defers = D

section
variable {P : Program} {B : Nat} {g0 : G} {w0 : World} {N : Nat} {D : List Deferred} {g : G} {lb : Nat → Option Nat} {a : Act} {w : World} {X : St} {o : Oper} {esc : List Nat}

theorem size_put (a : Act) (d : Option Tmp) (v : Value) : (a.put d v).tmps.size = a.tmps.size := by
  cases d <;> simp [Act.put]

theorem defers_put (a : Act) (d : Option Tmp) (v : Value) : (a.put d v).defers = a.defers := by
  cases d <;> rfl

theorem In.put (h : In B g0 w0 N D g lb X a w) {d : Option Tmp} {r : TV} {v : Value} (hr : RepT g lb w r v) (hl : ∀ k off, r = .lref k off → X.L k ≠ none) (hd : ∀ t, d = some t → t < N) :
    In B g0 w0 N D g lb (X.put d r) (a.put d v) w :=
  ⟨h.ext, h.conc.put hr hl (by rw [h.size]; exact hd), by rw [size_put]; exact h.size, by rw [defers_put]; exact h.defs⟩

theorem In.step (h : In B g0 w0 N D g lb X a w) {g' : G} {w' : World} (hx : Ext w.heap.size g w g' w') {σ' : Store} {π' : Toks} (hi : Inv g' w' σ' π') :
    In B g0 w0 N D g' lb { X with σ := σ', π := π' } a w' :=
  ⟨h.ext.trans (hx.mono h.conc.big), h.conc.ext hx hi, h.size, h.defs⟩

/-- A variable of the call's own that is new. -/
theorem In.newL (h : In B g0 w0 N D g lb X a w) {k : Nat} (hk : X.L k = none) {cs : List Cell} {vs : Array Value} {T : TypeId} (hr : RepCs g w cs vs) :
    In B g0 w0 N D { g with kind := upd g.kind w.heap.size .none } (upd lb k (some w.heap.size)) { X with L := upd X.L k (some cs) } a (w.alloc (.cells vs T (0, 0))) := by
  obtain ⟨h1, h2⟩ := inv_alloc h.conc.inv (.cells vs T (0, 0)) .none (.inl rfl) (w' := w.alloc (.cells vs T (0, 0))) rfl ⟨rfl, rfl⟩
  have hc := h.conc.ext h2 h1
  refine ⟨h.ext.trans (h2.mono h.conc.big), ?_, h.size, h.defs⟩
  refine { inv := hc.inv, big := hc.big, loc := fun k' cs' hk' => ?_, inj := fun k1 k2 b h3 h4 h5 h6 => ?_, tmps := fun t => ?_, wf := fun t k' off ht => ?_ }
  · by_cases e : k' = k
    · subst e
      have hk'' : upd X.L k' (some cs) k' = some cs' := hk'
      rw [upd_same] at hk''; cases hk''
      exact ⟨w.heap.size, vs, T, upd_same _ _ _, h.conc.big, by simp, upd_same _ _ _, heap_alloc_new, hr.ext h2⟩
    · have hk'' : upd X.L k (some cs) k' = some cs' := hk'
      rw [upd_ne _ _ e] at hk''
      obtain ⟨b, vs', T', h3, h4⟩ := hc.loc k' cs' hk''
      exact ⟨b, vs', T', by rw [upd_ne _ _ e]; exact h3, h4⟩
  · have key : ∀ k', k' ≠ k → upd X.L k (some cs) k' ≠ none → upd lb k (some w.heap.size) k' = some b → X.L k' ≠ none ∧ lb k' = some b ∧ b < w.heap.size := fun k' e h7 h8 => by
      rw [upd_ne _ _ e] at h7 h8
      cases hl : X.L k' with
      | none => exact absurd hl h7
      | some cs' =>
        obtain ⟨b', _, _, h9, _, h10, _⟩ := h.conc.loc k' cs' hl
        rw [h8] at h9; cases h9
        exact ⟨by simp, h8, h10⟩
    by_cases e1 : k1 = k
    · by_cases e2 : k2 = k
      · rw [e1, e2]
      · obtain ⟨_, _, h9⟩ := key k2 e2 h4 h6
        subst e1
        rw [upd_same] at h5; cases h5; omega
    · obtain ⟨h7, h8, h9⟩ := key k1 e1 h3 h5
      by_cases e2 : k2 = k
      · subst e2
        rw [upd_same] at h6; cases h6; omega
      · obtain ⟨h10, h11, _⟩ := key k2 e2 h4 h6
        exact h.conc.inj k1 k2 b h7 h10 h8 h11
  · have h3 := hc.tmps t
    show RepT _ _ _ (X.T t) _
    cases hT : X.T t with
    | val v o => rw [hT] at h3; exact h3
    | agg cs' => rw [hT] at h3; exact h3
    | lref k' off =>
      rw [hT] at h3
      obtain ⟨b, h4, h5⟩ := h3
      have hne : k' ≠ k := fun e => h.conc.wf t k' off hT (by rw [e]; exact hk)
      exact ⟨b, by rw [upd_ne _ _ hne]; exact h4, h5⟩
  · have hne : k' ≠ k := fun e => h.conc.wf t k' off ht (by rw [e]; exact hk)
    show upd X.L k (some cs) k' ≠ none
    rw [upd_ne _ _ hne]
    exact h.conc.wf t k' off ht

/-- A variable of the call's own is written. -/
theorem In.setL (h : In B g0 w0 N D g lb X a w) {k : Nat} {cs cs' : List Cell} (hk : X.L k = some cs) {b : Nat} (hb : lb k = some b) {w' : World} (hsz : w'.heap.size = w.heap.size) (hsame : ∀ b', b' ≠ b → w'.heap[b']? = w.heap[b']?) (henv : w'.os = w.os ∧ w'.output = w.output)
    {vs : Array Value} {T : TypeId} (hh : w'.heap[b]? = some (.cells vs T (0, 0))) (hr : ∀ g' w'', Ext 0 g w g' w'' → RepCs g' w'' cs' vs) :
    In B g0 w0 N D g lb { X with L := upd X.L k (some cs') } a w' := by
  obtain ⟨b0, vs0, T0, h1, h2, h3, h4, h5, h6⟩ := h.conc.loc k cs hk
  rw [hb] at h1; cases h1
  obtain ⟨hi, hx⟩ := inv_poke h.conc.inv h4 hsz hsame henv
  have hx0 := hx 0 (Nat.zero_le _)
  refine ⟨h.ext.trans (hx B h2), ?_, h.size, h.defs⟩
  have hL : ∀ k', upd X.L k (some cs') k' ≠ none ↔ X.L k' ≠ none := fun k' => by
    by_cases e : k' = k
    · subst e; simp [upd_same, hk]
    · rw [upd_ne _ _ e]
  refine { inv := hi, big := by rw [hsz]; exact h.conc.big, loc := fun k' cs'' hk' => ?_, inj := fun k1 k2 b' a1 a2 => h.conc.inj k1 k2 b' ((hL k1).1 a1) ((hL k2).1 a2), tmps := fun t => (h.conc.tmps t).ext hx0, wf := fun t k' off ht => (hL k').2 (h.conc.wf t k' off ht) }
  by_cases e : k' = k
  · subst e
    have hk'' : upd X.L k' (some cs') k' = some cs'' := hk'
    rw [upd_same] at hk''; cases hk''
    exact ⟨b, vs, T, hb, h2, by rw [hsz]; exact h3, h4, hh, hr _ _ hx0⟩
  · have hk'' : upd X.L k (some cs') k' = some cs'' := hk'
    rw [upd_ne _ _ e] at hk''
    obtain ⟨b', vs', T', h7, h8, h9, h10, h11, h12⟩ := h.conc.loc k' cs'' hk''
    have hne : b' ≠ b := fun eb => e (h.conc.inj k' k b (by rw [hk'']; simp) (by rw [hk]; simp) (by rw [← eb]; exact h7) hb)
    exact ⟨b', vs', T', h7, h8, by rw [hsz]; exact h9, h10, (hsame b' hne).trans h11, h12.ext hx0⟩

theorem Rep.any_no {g : G} {lb : Nat → Option Nat} {w : World} (v : Value) : RepT g lb w (.val .any .no) v := ⟨.any v, trivial⟩

theorem vcE_sound (h : In B g0 w0 N D g lb X a w) (hd : ∀ t, o.dst = some t → t < N) {K : St → Prop} (hv : vcE o X K (ev P esc o X)) {next : Act → World → Prop} {Q : Exit → Act → World → Prop}
    (hK : ∀ g lb X a w, K X → In B g0 w0 N D g lb X a w → next a w) : o.wp P a w next Q := by
  have hok := ev_ok (P := P) (o := o) (esc := esc) h.conc
  have out : ∀ r, Out P g lb a w X o r → K (X.put o.dst r) → o.wp P a w next Q := fun r ⟨v, w', g', h1, h2, h3, h4, h5⟩ hk => by
    unfold Oper.wp
    rw [h1, Oper.upon_value]
    exact hK _ _ _ _ _ hk ((h.step h2 h3).put h4 h5 hd)
  revert hv hok
  generalize ev P esc o X = er
  intro hv hok
  cases er with
  | no => exact hv.elim
  | ok r => exact out r hok hv
  | box cs =>
    obtain ⟨d, vs, T, h1, h2, h3, h4⟩ := hok
    simp only [vcE, h1, h2] at hv
    unfold Oper.wp
    rw [h3, Oper.upon_value, h1]
    have h5 := h.newL h2 (T := T) h4
    refine hK _ _ _ _ _ hv (h5.put ⟨w.heap.size, upd_same _ _ _, rfl⟩ (fun k off e => ?_) (fun t e => hd t (by rw [h1]; exact e)))
    cases e
    show upd X.L d (some cs) d ≠ none
    rw [upd_same]; simp
  | split b x y =>
    cases b with
    | true => exact out x hok hv
    | false => exact out y hok hv
  | ex p f =>
    obtain ⟨e, h1, h2⟩ := hv
    exact out _ (hok e h1) h2
  | rd l f =>
    obtain ⟨ob, h1, r, h2, h3⟩ := hv
    exact out r (hok ob r h1 h2) h3
end
end Go.Lf
