/- A small logic over the kit's calls. Part 15: code, functions. -/
import Derived.Test.YtmdjomilicoobaaLf14m
import Derived.Deep.LoopGhost
namespace Go.Lf
open Go

/-- A region that draws its order. -/
def vcDraw (P : Program) (esc : List Nat) (ops : Array Oper) (X : St) (K : St → Prop) (Qp : V → St → Prop) : Prop :=
  match ordOk ops with
  | true => vcRedM P esc ops (List.range ops.size) K (fun v X => ∀ T, Qp v { X with T := T }) ops.size 0 X []
  | false => False

def TLe (r r' : TV) : Prop := r' = tvAny ∨ r' = r ∨ (∃ v o, r = .val v o ∧ r' = .val v .no) ∨ ∃ cs, r = .agg cs ∧ r' = .val (.agg (cs.map (·.1))) .no

def CLe (cs cs' : List Cell) : Prop := cs.length = cs'.length ∧ ∀ (i : Nat) (c c' : Cell), cs[i]? = some c → cs'[i]? = some c' → c' = c ∨ c' = (c.1, .no)

/-- The second state says less. -/
structure Le (X X' : St) : Prop where
  T : ∀ t, TLe (X.T t) (X'.T t)
  L : ∀ k cs', X'.L k = some cs' → ∃ cs, X.L k = some cs ∧ CLe cs cs'
  σ : ∀ l o, X'.σ l = some o → X.σ l = some o
  π : ∀ t s, X'.π t = some s → X.π t = some s
  wf : ∀ t k off, X'.T t = .lref k off → X'.L k ≠ none

/-- What a code leaves. -/
def regQ (P : Program) (esc : List Nat) (ops : Array Oper) (draw : Bool) (Q : Ex → St → Prop) (X : St) : Prop := match draw with
  | false => vcOps P esc ops ops.toList X (Q .normal) (fun v X => Q (.panic v) X)
  | true => vcDraw P esc ops X (Q .normal) (fun v X => Q (.panic v) X)

def seqQ (y : (Ex → St → Prop) → St → Prop) (Q : Ex → St → Prop) : Ex → St → Prop := fun e X' => match e with
  | .normal => y Q X'
  | .exit i => Q (.exit i) X'
  | .ret => Q .ret X'
  | .panic v => Q (.panic v) X'

def condQ (c : Operand) (x y : (Ex → St → Prop) → St → Prop) (Q : Ex → St → Prop) (X : St) : Prop := match X.eval c with
  | .val (.raw (.bool b)) _ => match b with
    | true => x Q X
    | false => y Q X
  | _ => False

def blockQ (id : Nat) (Q : Ex → St → Prop) : Ex → St → Prop := fun e X' => match e with
  | .exit i => match Nat.beq i id with
    | true => Q .normal X'
    | false => Q (.exit i) X'
  | .normal => Q .normal X'
  | .ret => Q .ret X'
  | .panic v => Q (.panic v) X'

def loopQ {ι : Type} (st : ι → St) (μ : ι → Nat) (i : ι) (Q : Ex → St → Prop) : Ex → St → Prop := fun e X' => match e with
  | .normal => ∃ j, Le X' (st j) ∧ μ j < μ i
  | .exit i => Q (.exit i) X'
  | .ret => Q .ret X'
  | .panic v => Q (.panic v) X'

noncomputable def vc (P : Program) (esc : List Nat) (c : Code) : (Ex → St → Prop) → St → Prop :=
  Code.rec (motive := fun _ => (Ex → St → Prop) → St → Prop)
    (fun Q X => Q .normal X)
    (fun _ ops draw Q X => regQ P esc ops draw Q X)
    (fun _ _ x y Q X => x (seqQ y Q) X)
    (fun c _ _ x y Q X => condQ c x y Q X)
    (fun id _ c Q X => c (blockQ id Q) X)
    (fun _ c Q X => ∃ (ι : Type) (st : ι → St) (μ : ι → Nat), (∃ i, Le X (st i)) ∧ ∀ i, c (loopQ st μ i Q) (st i))
    (fun _ _ _ _ _ _ _ _ => False)
    (fun id Q X => Q (.exit id) X)
    (fun _ _ _ _ => False)
    (fun _ _ _ => False)
    (fun _ _ _ => False)
    (fun Q X => Q .ret X)
    (fun _ _ _ => False) c

/-- The temporaries that are written are there. -/
def dstOk (N : Nat) : Code → Bool
  | .region _ ops _ => ops.all fun o => match o.dst with
    | some d => Nat.blt d N
    | none => true
  | .seq x y | .cond _ x y => dstOk N x && dstOk N y
  | .block _ c | .loop c => dstOk N c
  | _ => true

section
variable {P : Program} {B : Nat} {g0 : G} {w0 : World} {N : Nat} {D : List Deferred} {g : G} {lb : Nat → Option Nat} {a : Act} {w : World} {X : St} {esc : List Nat}

theorem RepC.weak {c : Cell} {v : Value} (h : RepC g w c v) : RepC g w (c.1, .no) v := ⟨h.1, trivial⟩

theorem RepT.le {r r' : TV} (hl : TLe r r') {v : Value} (h : RepT g lb w r v) : RepT g lb w r' v := by
  rcases hl with rfl | rfl | ⟨u, o, rfl, rfl⟩ | ⟨cs, rfl, rfl⟩
  · exact Rep.any_no v
  · exact h
  · exact h.weak
  · exact ⟨h.v? rfl, trivial⟩

theorem Conc.le {X' : St} (hl : Le X X') (h : Conc B g lb a w X) : Conc B g lb a w X' where
  inv := h.inv.drop hl.σ hl.π
  big := h.big
  loc k cs' hk := by
    obtain ⟨cs, h1, h2, h3⟩ := hl.L k cs' hk
    obtain ⟨b, vs, T, a1, a2, a3, a4, a5, a6⟩ := h.loc k cs h1
    refine ⟨b, vs, T, a1, a2, a3, a4, a5, by rw [← h2]; exact a6.1, fun i c' v hc hv => ?_⟩
    have hi : i < cs.length := by rw [h2]; exact (List.getElem?_eq_some_iff.1 hc).1
    have hci : cs[i]? = some cs[i] := by simp [hi]
    have h4 := a6.2 i cs[i] v hci hv
    rcases h3 i cs[i] c' hci hc with rfl | rfl
    · exact h4
    · exact ⟨h4.1.weak, h4.2⟩
  inj k k' b h1 h2 := by
    refine h.inj k k' b ?_ ?_
    · cases e : X'.L k with
      | none => exact absurd e h1
      | some cs' => obtain ⟨cs, h3, _⟩ := hl.L k cs' e; rw [h3]; simp
    · cases e : X'.L k' with
      | none => exact absurd e h2
      | some cs' => obtain ⟨cs, h3, _⟩ := hl.L k' cs' e; rw [h3]; simp
  tmps t := (h.tmps t).le (hl.T t)
  wf := hl.wf

theorem In.le {X' : St} (hl : Le X X') (h : In B g0 w0 N D g lb X a w) : In B g0 w0 N D g lb X' a w := ⟨h.ext, h.conc.le hl, h.size, h.defs⟩

/-- What holds of a code's end. -/
def CQ (B : Nat) (g0 : G) (w0 : World) (N : Nat) (D : List Deferred) (Q : Ex → St → Prop) : Exit → Act → World → Prop
  | .normal, a, w => ∃ g lb X, In B g0 w0 N D g lb X a w ∧ Q .normal X
  | .exit id, a, w => ∃ g lb X, In B g0 w0 N D g lb X a w ∧ Q (.exit id) X
  | .ret, a, w => ∃ g lb X, In B g0 w0 N D g lb X a w ∧ Q .ret X
  | .panic chain, a, w => ∃ g lb X v x, In B g0 w0 N D g lb X a w ∧ chain = [{ v := x, recovered := false }] ∧ Rep g w v x ∧ Q (.panic v) X
  | _, _, _ => False

theorem CQ.mono {Q Q' : Ex → St → Prop} (h : ∀ e X, Q e X → Q' e X) : ∀ e a w, CQ B g0 w0 N D Q e a w → CQ B g0 w0 N D Q' e a w
  | .normal, _, _, ⟨g, lb, X, h1, h2⟩ => ⟨g, lb, X, h1, h _ _ h2⟩
  | .exit _, _, _, ⟨g, lb, X, h1, h2⟩ => ⟨g, lb, X, h1, h _ _ h2⟩
  | .ret, _, _, ⟨g, lb, X, h1, h2⟩ => ⟨g, lb, X, h1, h _ _ h2⟩
  | .panic _, _, _, ⟨g, lb, X, v, x, h1, h2, h3, h4⟩ => ⟨g, lb, X, v, x, h1, h2, h3, h _ _ h4⟩
  | .goto _, _, _, h => h.elim
  | .outgrown, _, _, h => h.elim

theorem vc_sound (hm : P.follows .mixedOrders = true) : ∀ (c : Code) (_ : dstOk N c = true) (Q : Ex → St → Prop) (g : G) (lb : Nat → Option Nat) (X : St) (a : Act) (w : World), In B g0 w0 N D g lb X a w → vc P esc c Q X →
    c.wp P (CQ B g0 w0 N D Q) a w
  | .skip, _, Q, g, lb, X, a, w, h, hv => wp_skip ⟨g, lb, X, h, hv⟩
  | .region id ops false, hd, Q, g, lb, X, a, w, h, hv => by
    have hd' : ∀ o ∈ ops.toList, ∀ d, o.dst = some d → d < N := fun o ho d e => by
      have h1 : ∀ x ∈ ops, (match x.dst with | some d => Nat.blt d N | none => true) = true := Array.all_eq_true_iff_forall_mem.1 hd
      have := h1 o (by simpa using ho)
      rw [e] at this
      exact (Nat.ble_eq ▸ this : d + 1 ≤ N)
    refine wp_region ?_
    have := vcOps_sound (P := P) (esc := esc) (Q := CQ B g0 w0 N D Q) (fun g lb X a w hk hin => ⟨g, lb, X, hin, hk⟩) (fun g lb X v x a w hq hin hr => ⟨g, lb, X, v, x, hin, rfl, hr, hq⟩) ops.toList 0 (by simp) hd' g lb X a w h hv
    simpa using this
  | .region id ops true, hd, Q, g, lb, X, a, w, h, hv => by
    have hd' : ∀ (i : Nat) (o : Oper), ops[i]? = some o → ∀ d, o.dst = some d → d < N := fun i o ho d e => by
      have h1 : ∀ x ∈ ops, (match x.dst with | some d => Nat.blt d N | none => true) = true := Array.all_eq_true_iff_forall_mem.1 hd
      have := h1 o (Array.mem_of_getElem? ho)
      rw [e] at this
      exact (Nat.ble_eq ▸ this : d + 1 ≤ N)
    refine wp_region_any hm ?_
    have hin : In B g0 w0 N D g lb X a { w with drawn := w.drawn + 1 } := by
      have hx : Ext w.heap.size g w g { w with drawn := w.drawn + 1 } := ⟨Nat.le_refl _, fun _ _ h => ⟨rfl, h⟩, fun b m n h => ⟨m, Nat.le_refl _, h, fun _ _ => rfl⟩, fun _ h => h, fun _ _ h => h, fun _ _ h => h, ⟨rfl, rfl⟩, fun _ _ _ _ c _ _ h => ⟨c, h, rfl⟩⟩
      have hi : Inv g { w with drawn := w.drawn + 1 } X.σ X.π := by
        refine { size := h.conc.inv.size, fresh := h.conc.inv.fresh, objs := fun l o hl => ?_, inj := h.conc.inv.inj, arrs := h.conc.inv.arrs, toks := h.conc.inv.toks, tinj := h.conc.inv.tinj }
        obtain ⟨b, h1, h2, h3⟩ := h.conc.inv.objs l o hl
        exact ⟨b, h1, h2, h3.ext hx rfl⟩
      exact h.step hx hi
    exact vcAny_sound (P := P) (esc := esc) (Q := CQ B g0 w0 N D Q) (Qp := fun v X => ∀ T, Q (.panic v) { X with T := T }) (fun g lb X a w hk hin => ⟨g, lb, X, hin, hk⟩) (fun g lb X v x a w hq hin hr => ⟨g, lb, X, v, x, hin, rfl, hr, hq X.T⟩) hd' ops.size _ g lb X a _ hin
      (vcAny_of_red (fun v X d r h T => by have := h T; cases d <;> exact this) (DC.start ops) (by
        change vcDraw P esc ops X (Q .normal) (fun v X => Q (.panic v) X) at hv
        unfold vcDraw at hv
        split at hv
        · rename_i hok; exact vcRedM_red hok _ _ _ _ _ RpM.start hv
        · exact hv.elim))
  | .seq x y, hd, Q, g, lb, X, a, w, h, hv => by
    simp only [dstOk, Bool.and_eq_true] at hd
    refine wp_seq (wp_mono (vc_sound hm x hd.1 _ g lb X a w h hv) fun e a' w' hq => ?_)
    cases e with
    | normal => obtain ⟨g', lb', X', h1, h2⟩ := hq; exact vc_sound hm y hd.2 Q g' lb' X' a' w' h1 h2
    | exit id => exact hq
    | ret => exact hq
    | panic ch => exact hq
    | goto l => exact hq
    | outgrown => exact hq
  | .cond c x y, hd, Q, g, lb, X, a, w, h, hv => by
    simp only [dstOk, Bool.and_eq_true] at hd
    change condQ c (vc P esc x) (vc P esc y) Q X at hv
    unfold condQ at hv
    split at hv
    · rename_i b o' he
      have h1 := h.conc.eval c
      rw [he] at h1
      have h2 := rep_raw h1
      cases b with
      | true => exact wp_cond_true h2 (vc_sound hm x hd.1 Q g lb X a w h hv)
      | false => exact wp_cond_false h2 (vc_sound hm y hd.2 Q g lb X a w h hv)
    · exact hv.elim
  | .block id c, hd, Q, g, lb, X, a, w, h, hv => by
    refine wp_block (wp_mono (vc_sound hm c hd _ g lb X a w h hv) fun e a' w' hq => ?_)
    cases e with
    | normal => exact hq
    | exit i =>
      obtain ⟨g', lb', X', h1, h2⟩ := hq
      simp only [Exit.inBlock]
      by_cases e : i = id
      · subst e
        rw [if_pos rfl]
        simp [blockQ] at h2
        exact ⟨g', lb', X', h1, h2⟩
      · rw [if_neg e]
        have : Nat.beq i id = false := by rw [← Bool.not_eq_true, Nat.beq_eq]; exact e
        simp only [blockQ, this] at h2
        exact ⟨g', lb', X', h1, h2⟩
    | ret => exact hq
    | panic ch => exact hq
    | goto l => exact hq
    | outgrown => exact hq
  | .loop c, hd, Q, g, lb, X, a, w, h, hv => by
    obtain ⟨ι, st, μ, ⟨i0, hi0⟩, hround⟩ := hv
    refine wp_loop_ghost (fun n a w => ∃ i g lb, μ i = n ∧ In B g0 w0 N D g lb (st i) a w) (μ i0) ⟨i0, g, lb, rfl, h.le hi0⟩ ?_
    intro n a w ⟨i, g, lb, hn, hin⟩
    subst hn
    refine wp_mono (vc_sound hm c hd _ g lb (st i) a w hin (hround i)) fun e a' w' hq => ?_
    cases e with
    | normal =>
      obtain ⟨g', lb', X', h1, j, h2, h3⟩ := hq
      exact ⟨μ j, h3, j, g', lb', rfl, h1.le h2⟩
    | exit id => exact hq
    | ret => exact hq
    | panic ch => exact hq
    | goto l => exact hq
    | outgrown => exact hq
  | .exit id, _, Q, g, lb, X, a, w, h, hv => wp_exit ⟨g, lb, X, h, hv⟩
  | .ret, _, Q, g, lb, X, a, w, h, hv => wp_ret ⟨g, lb, X, h, hv⟩
  | .rangeFunc .., _, _, _, _, _, _, _, _, hv => hv.elim
  | .scope _, _, _, _, _, _, _, _, _, hv => hv.elim
  | .label _, _, _, _, _, _, _, _, _, hv => hv.elim
  | .goto _, _, _, _, _, _, _, _, _, hv => hv.elim
  | .refuse _, _, _, _, _, _, _, _, _, hv => hv.elim

def argsT (args : List V) : Nat → TV := fun t => match args[t]? with
  | some v => .val v .no
  | none => tvAny

/-- A function's result. -/
def resOf (P : Program) (X : St) : ResultVar → Option V
  | .tmp t => (X.T t).v?
  | .cell r t => match X.T r with
    | .lref k off => match X.L k with
      | some cs => match readC P t cs off with
        | some tv => tv.v?
        | none => none
      | none => none
    | .val (.ref l off) _ => match X.σ l with
      | some (.var cs) => match readC P t cs off with
        | some tv => tv.v?
        | none => none
      | _ => none
    | _ => none

def resL (P : Program) (X : St) : List ResultVar → Option (List V)
  | [] => some []
  | r :: rs => match resOf P X r, resL P X rs with
    | some v, some vs => some (v :: vs)
    | _, _ => none

def resV (P : Program) (X : St) (rs : List ResultVar) : Option V := match resL P X rs with
  | some [v] => some v
  | some vs => some (.tup vs)
  | none => none

/-- What a function's body must come to. -/
def fnQ (P : Program) (fn : Func) (R : Res → Store → Toks → Prop) : Ex → St → Prop
  | .normal, X | .ret, X => match resV P X fn.results.toList with
    | some v => ∃ σ' π', (∀ l o, σ' l = some o → X.σ l = some o) ∧ (∀ t s, π' t = some s → X.π t = some s) ∧ R (.ret v) σ' π'
    | none => False
  | .panic v, X => ∃ σ' π', (∀ l o, σ' l = some o → X.σ l = some o) ∧ (∀ t s, π' t = some s → X.π t = some s) ∧ R (.panic v) σ' π'
  | .exit _, _ => False

theorem resOf_run (hc : Conc B g lb a w X) {r : ResultVar} {v : V} (h : resOf P X r = some v) :
    ∃ x, ((match r with | .tmp t => pure (a.tmps.getD t undef) | .cell r t => do loadVar t (← asAddr (a.tmps.getD r undef)) : Sem Value)).run P w = .ok x w ∧ Rep g w v x := by
  cases r with
  | tmp t => exact ⟨_, rfl, (hc.tmps t).v? h⟩
  | cell r t =>
    have ht := hc.tmps r
    simp only [resOf] at h
    split at h
    · rename_i k off hT
      rw [hT] at ht
      obtain ⟨b, hb, hv⟩ := ht
      split at h
      · rename_i cs hcs
        split at h
        · rename_i tv htv
          obtain ⟨b', vs, T, h1, _, _, _, h5, h6⟩ := hc.loc k cs hcs
          rw [hb] at h1; cases h1
          obtain ⟨y, h7, h8, _⟩ := run_readC htv lb h5 h6
          exact ⟨y, by simp only [hv, asAddr, Sem.run_bind, Sem.run_pure, Result.andThen_ok, h7], h8.v? h⟩
        · cases h
      · cases h
    · rename_i l off o' hT
      rw [hT] at ht
      obtain ⟨ht, _⟩ := ht
      split at h
      · rename_i cs hcs
        split at h
        · rename_i tv htv
          obtain ⟨b, h1, _, vs, T, h5, h6⟩ := hc.inv.objs l _ hcs
          generalize hv : a.tmps.getD r undef = u at ht
          cases ht with
          | ref _ _ b' hl =>
            rw [h1] at hl; cases hl
            obtain ⟨y, h7, h8, _⟩ := run_readC htv lb h5 h6
            exact ⟨y, by simp only [hv, asAddr, Sem.run_bind, Sem.run_pure, Result.andThen_ok, h7], h8.v? h⟩
        · cases h
      · cases h
    · cases h

theorem resL_run (hc : Conc B g lb a w X) {F : ResultVar → Sem Value} (hF1 : ∀ t, F (.tmp t) = pure (a.tmps.getD t undef)) (hF2 : ∀ r t, F (.cell r t) = (do loadVar t (← asAddr (a.tmps.getD r undef)))) :
    ∀ {rs : List ResultVar} {vs : List V}, resL P X rs = some vs → ∃ xs : List Value, (rs.mapM F).run P w = .ok xs w ∧ Reps g w vs xs.toArray
  | [], vs, h => by cases h; exact ⟨[], rfl, rfl, fun i c v hc => by simp at hc⟩
  | r :: rs, vs, h => by
    simp only [resL] at h
    split at h
    · rename_i v us h1 h2
      cases h
      obtain ⟨x, h3, h4⟩ := resOf_run hc h1
      obtain ⟨xs, h5, h6⟩ := resL_run hc hF1 hF2 h2
      have h7 : (F r).run P w = .ok x w := by
        cases r with
        | tmp t => rw [hF1]; exact h3
        | cell r t => rw [hF2]; exact h3
      refine ⟨x :: xs, ?_, by have := h6.1; simpa using this, fun i c u hi hu => ?_⟩
      · rw [List.mapM_cons, Sem.run_bind, h7]
        simp only [Result.andThen_ok, Sem.run_bind, h5, Sem.run_pure]
      · cases i with
        | zero => simp at hi hu; subst hi; subst hu; exact h4
        | succ i => exact h6.2 i c u (by simpa using hi) (by simpa using hu)
    · cases h

theorem results_form (fn : Func) (tmps : Array Value) : ∃ F : ResultVar → Sem Value, (∀ t, F (.tmp t) = pure (tmps.getD t undef)) ∧ (∀ r t, F (.cell r t) = (do loadVar t (← asAddr (tmps.getD r undef)))) ∧
    results fn tmps = (do let vs ← fn.results.mapM F; pure (if h : vs.size = 1 then vs[0] else .tuple vs)) := by
  refine ⟨fun r => match r with
    | .tmp t => pure (tmps.getD t undef)
    | .cell r t => do loadVar t (← asAddr (tmps.getD r undef)), fun _ => rfl, fun _ _ => rfl, rfl⟩

theorem resV_run (hc : Conc B g lb a w X) {fn : Func} {v : V} (h : resV P X fn.results.toList = some v) : ∃ x, (results fn a.tmps).run P w = .ok x w ∧ Rep g w v x := by
  unfold resV at h
  obtain ⟨F, hF1, hF2, hF3⟩ := results_form fn a.tmps
  have key : ∀ {vs : List V}, resL P X fn.results.toList = some vs → ∃ xs : List Value, (results fn a.tmps).run P w = .ok (if h : xs.length = 1 then xs[0] else .tuple xs.toArray) w ∧ Reps g w vs xs.toArray := fun {vs} h1 => by
    obtain ⟨xs, h2, h3⟩ := resL_run hc hF1 hF2 h1
    refine ⟨xs, ?_, h3⟩
    rw [hF3, Sem.run_bind, Array.mapM_eq_mapM_toList, Sem.run_map, h2]
    simp only [Result.andThen_ok, Sem.run_pure, List.size_toArray]
    split <;> simp
  split at h
  · rename_i u h1
    cases h
    obtain ⟨xs, h2, h3⟩ := key h1
    have hl := h3.1
    simp at hl
    refine ⟨_, h2, ?_⟩
    rw [dif_pos hl.symm]
    exact h3.2 0 _ _ rfl (by simp [hl.symm])
  · rename_i vs hne h1
    cases h
    obtain ⟨xs, h2, h3⟩ := key h1
    refine ⟨_, h2, ?_⟩
    have hl := h3.1
    simp at hl
    rw [dif_neg (fun e => by
      cases vs with
      | nil => simp at hl; omega
      | cons u us => cases us with
        | nil => exact hne u rfl
        | cons u' us => simp at hl; omega)]
    exact .tup _ _ h3.1 h3.2
  · cases h

/-- A FUNCTION's CONTRACT OUT OF ITS BODY. -/
theorem acalls_of (esc : List Nat) (hm : P.follows .mixedOrders = true) {f : FuncId} {fn : Func} {c : Code} (hf : P.funcs[f]? = some fn) (hb : fn.body = some c) (hname : (fn.name == "runtime.NumGoroutine") = false) (hok : dstOk fn.ntmps c = true)
    {args : List V} {σ : Store} {π : Toks} {R : Res → Store → Toks → Prop} (h : vc P esc c (fnQ P fn R) { T := argsT args, L := fun _ => none, σ, π }) : ACalls P f args σ π R := by
  refine ⟨⟨fn, hf, by rw [hb]; rfl, hname⟩, fun g w vs hi hv => calls_of_wp hf hb ?_⟩
  have hN : (vs ++ Array.replicate (fn.ntmps - vs.size) undef).size = vs.size + (fn.ntmps - vs.size) := by simp
  have hmono : ∀ {N M : Nat} (_ : N ≤ M) (c : Code), dstOk N c = true → dstOk M c = true := by
    intro N M hNM c
    induction c with
    | region id ops draw =>
      intro h
      simp only [dstOk, Array.all_eq_true_iff_forall_mem] at h ⊢
      intro o ho
      have := h o ho
      split
      · rename_i d hd
        rw [hd] at this
        have h1 : d < N := (Nat.ble_eq ▸ this : d + 1 ≤ N)
        exact Nat.ble_eq_true_of_le (Nat.le_trans h1 hNM)
      · rfl
    | seq x y ihx ihy => intro h; simp only [dstOk, Bool.and_eq_true] at h ⊢; exact ⟨ihx h.1, ihy h.2⟩
    | cond _ x y ihx ihy => intro h; simp only [dstOk, Bool.and_eq_true] at h ⊢; exact ⟨ihx h.1, ihy h.2⟩
    | block _ c ih => exact ih
    | loop c ih => exact ih
    | _ => intro _; rfl
  have hin : In w.heap.size g w (vs ++ Array.replicate (fn.ntmps - vs.size) undef).size [] g (fun _ => none) { T := argsT args, L := fun _ => none, σ, π } { tmps := vs ++ Array.replicate (fn.ntmps - vs.size) undef, defers := [] } w := by
    refine ⟨Ext.refl _ _ _, { inv := hi, big := Nat.le_refl _, loc := fun k cs h => (by cases h), inj := fun k k' b h => absurd rfl h, tmps := fun t => ?_, wf := fun t k off h => ?_ }, rfl, rfl⟩
    · show RepT _ _ _ (argsT args t) _
      unfold argsT
      split
      · rename_i v hvt
        have hlt : t < vs.size := by
          have := (List.getElem?_eq_some_iff.1 hvt).1
          have := hv.1
          omega
        refine ⟨hv.2 t v _ hvt ?_, trivial⟩
        rw [Array.getD_eq_getD_getElem?, Array.getElem?_append_left hlt]
        simp [hlt]
      · exact Rep.any_no _
    · have h' : argsT args t = .lref k off := h
      unfold argsT at h'
      split at h' <;> cases h'
  refine wp_mono (vc_sound (esc := esc) hm c (hmono (by rw [hN]; omega) c hok) (fnQ P fn R) g _ _ _ w hin h) fun e a' w' hq => ?_
  have fin : ∀ {X' : St} {g' : G} {lb' : Nat → Option Nat}, In w.heap.size g w (vs ++ Array.replicate (fn.ntmps - vs.size) undef).size [] g' lb' X' a' w' → (match resV P X' fn.results.toList with
      | some v => ∃ σ' π', (∀ l o, σ' l = some o → X'.σ l = some o) ∧ (∀ t s, π' t = some s → X'.π t = some s) ∧ R (.ret v) σ' π'
      | none => False) → a'.defers = [] ∧ ∃ v, (results fn a'.tmps).run P w' = .ok v w' ∧ ∃ g' r σ' π', R r σ' π' ∧ Ext w.heap.size g w g' w' ∧ Inv g' w' σ' π' ∧ RepRes g' w' r (.returned v) := fun {X' g' lb'} hin hq => by
    split at hq
    · rename_i v hv
      obtain ⟨σ', π', h1, h2, h3⟩ := hq
      obtain ⟨x, h4, h5⟩ := resV_run hin.conc hv
      exact ⟨hin.defs, x, h4, g', .ret v, σ', π', h3, hin.ext, hin.conc.inv.drop h1 h2, x, rfl, h5⟩
    · exact hq.elim
  cases e with
  | normal => obtain ⟨g', lb', X', h1, h2⟩ := hq; exact fin h1 h2
  | ret => obtain ⟨g', lb', X', h1, h2⟩ := hq; exact fin h1 h2
  | exit id => obtain ⟨g', lb', X', h1, h2⟩ := hq; exact h2.elim
  | panic ch =>
    obtain ⟨g', lb', X', v, x, h1, rfl, h3, σ', π', h4, h5, h6⟩ := hq
    exact ⟨h1.defs, g', .panic v, σ', π', h6, h1.ext, h1.conc.inv.drop h4 h5, x, rfl, h3⟩
  | goto l => exact hq.elim
  | outgrown => exact hq.elim
end
end Go.Lf
