/- A small logic over the kit's calls. Part 14: regions that draw their order: what changes nothing is done as soon as it can be. -/
import Derived.Test.YtmdjomilicoobaaLf13
namespace Go.Lf
open Go

/-- In a region that draws its order: does the operation change something? (New variables count, too.) -/
def isMd (esc : List Nat) (o : Oper) : Bool := isM esc o || match o.op with
  | .alloc _ | .box .. | .select .. => true
  | _ => false

def waitsOn (ops : Array Oper) (j r : Nat) : Bool := match ops[j]? with
  | some o => o.after.toList.any fun e => Region.binds .any e && Nat.beq e.on r
  | none => false

/-- Whom an operation waits for, directly or not, as bits; 'acc': those of the operations ahead. -/
def tMask (acc : List Nat) : List Edge → Nat
  | [] => 0
  | e :: r => match Region.binds .any e with
    | true => Nat.lor (Nat.lor (Nat.shiftLeft 1 e.on) ((acc[e.on]?).getD 0)) (tMask acc r)
    | false => tMask acc r
def tAll : List Oper → List Nat → List Nat
  | [], acc => acc
  | o :: r, acc => tAll r (acc ++ [tMask acc o.after.toList])
def waitsT (ops : Array Oper) (j i : Nat) : Bool := Nat.beq (Nat.land (Nat.shiftRight (((tAll ops.toList [])[j]?).getD 0) i) 1) 1

def isLoad (o : Oper) : Bool := match o.op with
  | .load .. => true
  | _ => false

def isStore (ops : Array Oper) (j : Nat) : Bool := match ops[j]? with
  | some o => match o.op with
    | .store .. => true
    | _ => false
  | none => false

/-- Nothing is stored meanwhile, if this reads. -/
def noSt (ops : Array Oper) (listed : Array Bool) (i : Nat) (o : Oper) : Bool := match isLoad o with
  | false => true
  | true => (List.range ops.size).all fun j => listed.getD j true || Nat.beq j i || waitsT ops j i || !isStore ops j

/-- 'Region.ready', 'Region.free', by lists. -/
def readyL (ops : Array Oper) (listed : Array Bool) : List Nat :=
  (List.range ops.size).filter fun i => !listed.getD i true && match ops[i]? with
    | some o => o.after.toList.all fun e => !Region.binds .any e || listed.getD e.on false
    | none => false

theorem readyL_eq (ops : Array Oper) (listed : Array Bool) : readyL ops listed = Region.ready .any ops listed := by
  unfold readyL Region.ready
  congr 1
  funext i
  cases ops[i]? with
  | none => rfl
  | some o => simp

def freeL (ops : Array Oper) (listed : Array Bool) (i : Nat) : Bool :=
  match ops[i]? with
  | none => false
  | some oi => (List.range ops.size).all fun j => Nat.beq j i || listed.getD j true || match ops[j]? with
      | some oj => (oj.after.toList.any fun e => Region.binds .any e && Nat.beq e.on i) || oi.apart ops oj
      | none => true

theorem freeL_eq (ops : Array Oper) (listed : Array Bool) (i : Nat) : freeL ops listed i = Region.free .any ops listed i := by
  have hb : ∀ a b : Nat, Nat.beq a b = (a == b) := fun a b => by
    rw [Bool.eq_iff_iff]; simp
  unfold freeL Region.free
  cases ops[i]? with
  | none => rfl
  | some oi =>
    dsimp only
    congr 1
    funext j
    rw [hb]
    cases ops[j]? with
    | none => rfl
    | some oj => simp [hb]

def pickI (esc : List Nat) (ops : Array Oper) (listed : Array Bool) : Option Nat :=
  (readyL ops listed).find? fun i => match ops[i]? with
    | some o => !isMd esc o && freeL ops listed i && noSt ops listed i o
    | none => false

/-- What was read ahead of an operation that need not wait for that is still so behind it. -/
def Obl (ops : Array Oper) (j : Nat) (σ : Store) : List (Nat × Nat × Obj) → Prop
  | [] => True
  | (r, l, ob) :: rest => match waitsOn ops j r with
    | true => Obl ops j σ rest
    | false => σ l = some ob ∧ Obl ops j σ rest

def allL (f : Nat → Prop) : List Nat → Prop
  | [] => True
  | i :: r => match r with
    | [] => f i
    | _ :: _ => f i ∧ allL f r

def vcRed (P : Program) (esc : List Nat) (ops : Array Oper) (K : St → Prop) (Qp : V → St → Prop) : Nat → Array Bool → St → List (Nat × Nat × Obj) → Prop
  | 0, listed, X, _ => match readyL ops listed with
    | [] => K X
    | _ :: _ => False
  | fuel + 1, listed, X, obl => match pickI esc ops listed with
    | some i => match ops[i]? with
      | some o => vcG ops o X (fun X => match ev P esc o X with
          | .ok r => vcRed P esc ops K Qp fuel (listed.setIfInBounds i true) (X.put o.dst r) obl
          | .split b x y => match b with
            | true => vcRed P esc ops K Qp fuel (listed.setIfInBounds i true) (X.put o.dst x) obl
            | false => vcRed P esc ops K Qp fuel (listed.setIfInBounds i true) (X.put o.dst y) obl
          | .ex p f => ∃ e, p e ∧ vcRed P esc ops K Qp fuel (listed.setIfInBounds i true) (X.put o.dst (f e)) obl
          | .rd l f => ∃ ob, X.σ l = some ob ∧ ∃ r, f ob = some r ∧ vcRed P esc ops K Qp fuel (listed.setIfInBounds i true) (X.put o.dst r) ((i, l, ob) :: obl)
          | _ => False) (fun X => vcRed P esc ops K Qp fuel (listed.setIfInBounds i true) (X.put o.dst tvU) obl)
      | none => False
    | none => match readyL ops listed with
      | [] => K X
      | j :: r => allL (fun i => match ops[i]? with
          | some o => vcG ops o X (fun X => vcOp P esc o X (fun X' => Obl ops i X'.σ obl ∧ vcRed P esc ops K Qp fuel (listed.setIfInBounds i true) X' obl) Qp) (fun X => vcRed P esc ops K Qp fuel (listed.setIfInBounds i true) (X.put o.dst tvU) obl)
          | none => False) (j :: r)

/-- 'vcAny', with what is owed at each operation that changes something. -/
def vcAnyO (P : Program) (esc : List Nat) (ops : Array Oper) (K : St → Prop) (Qp : V → St → Prop) : Nat → Array Bool → St → List (Nat × Nat × Obj) → Prop
  | 0, listed, X, _ => Region.ready .any ops listed = [] ∧ K X
  | fuel + 1, listed, X, obl =>
    (Region.ready .any ops listed = [] → K X) ∧
    ∀ i ∈ Region.ready .any ops listed, match ops[i]? with
      | none => vcAnyO P esc ops K Qp fuel (listed.setIfInBounds i true) X obl
      | some o => vcG ops o X (fun X => vcOp P esc o X (fun X' => (isMd esc o = true → Obl ops i X'.σ obl) ∧ vcAnyO P esc ops K Qp fuel (listed.setIfInBounds i true) X' obl) Qp)
          (fun X => vcAnyO P esc ops K Qp fuel (listed.setIfInBounds i true) (X.put o.dst tvU) obl)

section
variable {P : Program} {esc : List Nat} {ops : Array Oper} {K : St → Prop} {Qp : V → St → Prop}

theorem vcE_mono {o : Oper} {X : St} {K K' : St → Prop} (h : ∀ X, K X → K' X) : ∀ {er : ER}, vcE o X K er → vcE o X K' er
  | .no, hv => hv
  | .ok r, hv => h _ hv
  | .box cs, hv => by
    cases hd : o.dst with
    | none => simp only [vcE, hd] at hv
    | some d =>
      simp only [vcE, hd] at hv ⊢
      split at hv
      · exact h _ hv
      · exact hv.elim
  | .split b x y, hv => by cases b <;> exact h _ hv
  | .ex p f, hv => let ⟨e, h1, h2⟩ := hv; ⟨e, h1, h _ h2⟩
  | .rd l f, hv => let ⟨ob, h1, r, h2, h3⟩ := hv; ⟨ob, h1, r, h2, h _ h3⟩

theorem vcAppend_mono {X : St} {d : Option Tmp} {t tx : TypeId} {x y : TV} {K K' : St → Prop} (h : ∀ X, K X → K' X) (hv : vcAppend P X d t tx x y K) : vcAppend P X d t tx x y K' := by
  unfold vcAppend at *
  split at hv
  · exact hv.elim
  · split at hv
    · obtain ⟨h1, h2, h3, h4⟩ := hv
      refine ⟨h1, h2, h3, ?_⟩
      split at h4
      · exact ⟨h4.1, fun t' ht' => h _ (h4.2 t' ht')⟩
      · exact ⟨h4.1, h _ h4.2⟩
      · split at h4
        · exact h _ h4
        · exact fun t' ht' => h _ (h4 t' ht')
    · exact hv.elim

theorem vcM_mono {o : Oper} {X : St} {K K' : St → Prop} {Qp Qp' : V → St → Prop} (h : ∀ X, K X → K' X) (hq : ∀ v X, Qp v X → Qp' v X) (hv : vcM P esc o X K Qp) : vcM P esc o X K' Qp' := by
  unfold vcM at *
  split at hv
  · split at hv
    · exact hv.elim
    · split at hv
      · split at hv
        · split at hv
          · exact h _ hv
          · exact hv.elim
        · exact hv.elim
      · obtain ⟨cs, h1, h2, h3, h4⟩ := hv
        exact ⟨cs, h1, h2, h3, h _ h4⟩
      · exact hv.elim
  · split at hv
    · exact fun l hl => h _ (hv l hl)
    · exact hv.elim
  · split at hv
    · exact fun l hl => h _ (hv l hl)
    · exact hv.elim
  · split at hv
    · exact fun l hl => h _ (hv l hl)
    · exact hv.elim
  · split at hv
    · exact hv.elim
    · split at hv
      · obtain ⟨f, h1, h2⟩ := hv
        exact ⟨f, h1, h _ h2⟩
      · exact hv.elim
  · split at hv
    · exact hq _ _ hv
    · exact hv.elim
  · split at hv
    · split at hv
      · split at hv
        · exact vcAppend_mono h hv
        · exact hv.elim
      · exact hv.elim
    · split at hv
      · refine hv.mono fun r σ' π' hr => ?_
        cases r with
        | ret v => exact h _ hr
        | panic v => exact hq _ _ hr
      · exact hv.elim
    · exact hv.elim
  · exact hv.elim

theorem vcOp_mono {o : Oper} {X : St} {K K' : St → Prop} {Qp Qp' : V → St → Prop} (h : ∀ X, K X → K' X) (hq : ∀ v X, Qp v X → Qp' v X) (hv : vcOp P esc o X K Qp) : vcOp P esc o X K' Qp' := by
  unfold vcOp at *
  split at hv
  · exact vcM_mono h hq hv
  · exact vcE_mono h hv

theorem vcG_mono {o : Oper} {X : St} {r r' s s' : St → Prop} (h : ∀ X, r X → r' X) (h' : ∀ X, s X → s' X) (hv : vcG ops o X r s) : vcG ops o X r' s' := by
  unfold vcG at *
  split at hv
  · exact h _ hv
  · split at hv
    · split at hv
      · rename_i b o' _
        cases b <;> (rename_i w' _ _ _ _ _ _; first | (cases w' <;> first | exact h _ hv | exact h' _ hv) | (split at hv <;> first | exact h _ hv | exact h' _ hv))
      · exact h' _ hv
      · exact hv.elim
    · exact hv.elim

theorem evals_congr {X X' : St} : ∀ {xs : List Operand}, (∀ x ∈ xs, X'.eval x = X.eval x) → X'.evals xs = X.evals xs
  | [], _ => rfl
  | x :: xs, h => by
    simp only [St.evals, h x (by simp), evals_congr (xs := xs) (fun y hy => h y (by simp [hy]))]

theorem partsOf_congr {X X' : St} : ∀ {ps : List (Nat × Operand)}, (∀ p ∈ ps, X'.eval p.2 = X.eval p.2) → partsOf X' ps = partsOf X ps
  | [], _ => rfl
  | (i, x) :: ps, h => by
    simp only [partsOf, h (i, x) (by simp), partsOf_congr (ps := ps) (fun y hy => h y (by simp [hy]))]

theorem map_congr_opt {X X' : St} {x : Option Operand} (h : ∀ y ∈ x.toArray, X'.eval y = X.eval y) : x.map X'.eval = x.map X.eval := by
  cases x with
  | none => rfl
  | some y => simp [h y (by simp)]

theorem ev_congr {o : Oper} {X X' : St} (h : ∀ x ∈ o.op.operands, X'.eval x = X.eval x) (hL : X'.L = X.L ∨ isMd esc o = false ∧ (isLoad o = true → ∀ k cs, X.L k = some cs → X'.L k = some cs)) (hne : ev P esc o X ≠ .no) :
    ev P esc o X' = ev P esc o X := by
  revert hne
  cases ho : o.op <;> simp only [ho, Op.operands] at h <;> unfold ev <;> simp only [ho] <;> intro hne
  case move x => rw [h x (by simp)]
  case assign x => rw [h x (by simp)]
  case pick c a b => rw [h c (by simp), h a (by simp), h b (by simp)]
  case alloc t =>
    rcases hL with hL | ⟨hL, _⟩
    · rw [hL]
    · simp [isMd, ho] at hL
  case box t x =>
    rw [h x (by simp)]
    rcases hL with hL | ⟨hL, _⟩
    · rw [hL]
    · simp [isMd, ho] at hL
  case build t ps =>
    unfold evBuild
    rw [partsOf_congr (fun p hp => h p.2 (by simpa using ⟨p.1, by simpa using hp⟩))]
  case buildSlice t n ps =>
    unfold evBuildSlice
    rw [partsOf_congr (fun p hp => h p.2 (by simpa using ⟨p.1, by simpa using hp⟩))]
  case load t x =>
    rw [h x (by simp)]
    revert hne
    unfold evLoad
    intro hne
    split
    · rename_i k off he
      rw [he] at hne
      cases hk : X.L k with
      | none => simp only [hk] at hne; exact absurd rfl hne
      | some cs =>
        rcases hL with hL | ⟨_, hL⟩
        · rw [hL, hk]
        · rw [hL (by simp [isLoad, ho]) k cs hk]
    · rfl
    · rfl
    · rfl
  case nilCheck x => rw [h x (by simp)]
  case binOp op t x y ty => rw [h x (by simp), h y (by simp)]
  case unOp op t x => rw [h x (by simp)]
  case convert s d x => rw [h x (by simp)]
  case makeInterface t x => rw [h x (by simp)]
  case makeFunc f xs ys => rw [evals_congr (fun x hx => h x (by simp at hx ⊢; exact .inl hx)), evals_congr (fun x hx => h x (by simp at hx ⊢; exact .inr hx))]
  case slice t x lo hi mx =>
    rw [h x (by simp), map_congr_opt (x := lo) (fun y hy => h y (by simp at hy ⊢; simp [hy])), map_congr_opt (x := hi) (fun y hy => h y (by simp at hy ⊢; simp [hy])), map_congr_opt (x := mx) (fun y hy => h y (by simp at hy ⊢; simp [hy]))]
  case fieldAddr t x f => rw [h x (by simp)]
  case field t x f => rw [h x (by simp)]
  case indexAddr t x i => rw [h x (by simp), h i (by simp)]
  case index t x i => rw [h x (by simp), h i (by simp)]
  case lookup t x k ok => rw [h x (by simp), h k (by simp)]
  case typeAssert x t a ok => rw [h x (by simp)]
  case extract x i => rw [h x (by simp)]
  case call c =>
    unfold evCall
    have h1 : ∀ x ∈ c.args.toList, X'.eval x = X.eval x := fun x hx => h x (by simp [Call.operands]; right; simpa using hx)
    have h2 : ∀ x, c.args[0]? = some x → X'.eval x = X.eval x := fun x hx => h1 x (by simpa using Array.mem_of_getElem? hx)
    rw [evals_congr h1]
    split <;> first | rfl | (split <;> first | rfl | (rename_i x _ hx; rw [h2 x hx]))
  all_goals trivial

/-- How an operation turns the state. -/
structure SR (esc : List Nat) (o : Oper) (X X' : St) : Prop where
  T : ∀ t, o.dst ≠ some t → X'.T t = X.T t
  σ : isM esc o = false → X'.σ = X.σ
  L : (∀ t a x, o.op ≠ .store t a x) → ∀ k cs, X.L k = some cs → X'.L k = some cs

theorem put_T {X : St} {d : Option Tmp} {r : TV} {t : Nat} (h : d ≠ some t) : (X.put d r).T t = X.T t := by
  cases d with
  | none => rfl
  | some d => exact upd_ne _ _ (fun e => h (by rw [e]))

theorem put_L {X : St} {d : Option Tmp} {r : TV} : (X.put d r).L = X.L := by cases d <;> rfl
theorem put_σ {X : St} {d : Option Tmp} {r : TV} : (X.put d r).σ = X.σ := by cases d <;> rfl
theorem put_π {X : St} {d : Option Tmp} {r : TV} : (X.put d r).π = X.π := by cases d <;> rfl

theorem SR.put {o : Oper} {X : St} {r : TV} : SR esc o X (X.put o.dst r) := ⟨fun _ h => put_T h, fun _ => put_σ, fun _ k cs h => by rw [put_L]; exact h⟩
theorem SR.put' {o : Oper} {X Y : St} {r : TV} (hM : isM esc o = true) (hT : Y.T = X.T) (hL : Y.L = X.L) : SR esc o X (Y.put o.dst r) := ⟨fun _ h => by rw [put_T h, hT], fun h => (by rw [hM] at h; cases h), fun _ k cs h => by rw [put_L, hL]; exact h⟩

theorem vcE_SR {o : Oper} {X : St} {er : ER} (hv : vcE o X K er) : vcE o X (fun X' => K X' ∧ SR esc o X X') er := by
  cases er with
  | no => exact hv
  | ok r => exact ⟨hv, SR.put⟩
  | box cs =>
    cases hd : o.dst with
    | none => simp only [vcE, hd] at hv
    | some d =>
      simp only [vcE, hd] at hv ⊢
      split at hv
      · rename_i hL
        refine ⟨hv, fun t ht => ?_, fun _ => rfl, fun _ k cs' hk => ?_⟩
        · exact put_T (X := { X with L := upd X.L d (some cs) }) (by rw [← hd]; exact ht)
        · show upd X.L d (some cs) k = some cs'
          rw [upd_ne _ _ (fun e => by rw [e, hL] at hk; cases hk)]
          exact hk
      · exact hv.elim
  | split b x y => cases b <;> exact ⟨hv, SR.put⟩
  | ex p f => obtain ⟨e, h1, h2⟩ := hv; exact ⟨e, h1, h2, SR.put⟩
  | rd l f => obtain ⟨ob, h1, r, h2, h3⟩ := hv; exact ⟨ob, h1, r, h2, h3, SR.put⟩

theorem vcM_SR {o : Oper} {X : St} (hM : isM esc o = true) (hv : vcM P esc o X K Qp) : vcM P esc o X (fun X' => K X' ∧ SR esc o X X') Qp := by
  have same : ∀ {σ π r}, SR esc o X (St.put { X with σ := σ, π := π } o.dst r) := fun {σ π r} => SR.put' hM rfl rfl
  unfold vcM at *
  split at hv
  · rename_i t a x ho
    split at hv
    · exact hv.elim
    · split at hv
      · split at hv
        · split at hv
          · exact ⟨hv, fun t' h => put_T (X := { X with L := _ }) h, fun h => (by rw [hM] at h; cases h), fun h => absurd ho (h _ _ _)⟩
          · exact hv.elim
        · exact hv.elim
      · obtain ⟨cs, h1, h2, h3, h4⟩ := hv
        exact ⟨cs, h1, h2, h3, h4, same⟩
      · exact hv.elim
  · split at hv
    · exact fun l hl => ⟨hv l hl, same⟩
    · exact hv.elim
  · split at hv
    · exact fun l hl => ⟨hv l hl, same⟩
    · exact hv.elim
  · split at hv
    · exact fun l hl => ⟨hv l hl, same⟩
    · exact hv.elim
  · split at hv
    · exact hv.elim
    · split at hv
      · obtain ⟨f, h1, h2⟩ := hv
        exact ⟨f, h1, h2, same⟩
      · exact hv.elim
  · split at hv
    · exact hv
    · exact hv.elim
  · split at hv
    · split at hv
      · split at hv
        · unfold vcAppend at *
          split at hv
          · exact hv.elim
          · split at hv
            · obtain ⟨h1, h2, h3, h4⟩ := hv
              refine ⟨h1, h2, h3, ?_⟩
              split at h4
              · exact ⟨h4.1, fun t' ht' => ⟨h4.2 t' ht', same⟩⟩
              · exact ⟨h4.1, h4.2, SR.put⟩
              · split at h4
                · exact ⟨h4, SR.put⟩
                · exact fun t' ht' => ⟨h4 t' ht', same⟩
            · exact hv.elim
        · exact hv.elim
      · exact hv.elim
    · split at hv
      · refine hv.mono fun r σ' π' hr => ?_
        cases r with
        | ret v => exact ⟨hr, same⟩
        | panic v => exact hr
      · exact hv.elim
    · exact hv.elim
  · exact hv.elim

theorem vcOp_SR {o : Oper} {X : St} (hv : vcOp P esc o X K Qp) : vcOp P esc o X (fun X' => K X' ∧ SR esc o X X') Qp := by
  unfold vcOp at *
  split at hv
  · rename_i hM; exact vcM_SR hM hv
  · exact vcE_SR hv

/-- A temporary that an operation doesn't look at, set ahead of it or behind it. -/
theorem put_put {X : St} {d d' : Option Tmp} {r r' : TV} (h : ∀ t, d = some t → d' ≠ some t) : (X.put d r).put d' r' = (X.put d' r').put d r := by
  cases d with
  | none => rfl
  | some t => cases d' with
    | none => rfl
    | some t' =>
      have hne : t' ≠ t := fun e => h t rfl (by rw [e])
      simp only [St.put]
      congr 1
      funext n
      by_cases e1 : n = t
      · subst e1
        rw [upd_ne _ _ (Ne.symm hne), upd_same, upd_same]
      · by_cases e2 : n = t'
        · subst e2
          rw [upd_same, upd_ne _ _ e1, upd_same]
        · rw [upd_ne _ _ e2, upd_ne _ _ e1, upd_ne _ _ e1, upd_ne _ _ e2]

theorem eval_put {X : St} {d : Option Tmp} {r : TV} {x : Operand} (h : ∀ t, d = some t → x ≠ .tmp t) : (X.put d r).eval x = X.eval x := by
  cases x with
  | tmp t => exact put_T (fun e => h t e rfl)
  | _ => rfl

theorem putσ {X : St} {σ : Store} {π : Toks} {d : Option Tmp} {r : TV} : ({ X.put d r with σ := σ, π := π } : St) = St.put { X with σ := σ, π := π } d r := by
  cases d <;> rfl
theorem putL {X : St} {L : Nat → Option (List Cell)} {d : Option Tmp} {r : TV} : ({ X.put d r with L := L } : St) = St.put { X with L := L } d r := by
  cases d <;> rfl

theorem pcomm {X : St} {L : Nat → Option (List Cell)} {σ : Store} {π : Toks} {d e : Option Tmp} {r v : TV} (hd : ∀ t, d = some t → e ≠ some t) :
    St.put { T := (X.put d r).T, L, σ, π } e v = (St.put { T := X.T, L, σ, π } e v).put d r := by
  rw [← put_put hd]
  cases d <;> rfl

theorem pcomm0 {X : St} {σ : Store} {π : Toks} {d : Option Tmp} {r : TV} : ({ T := (X.put d r).T, L := X.L, σ, π } : St) = St.put { T := X.T, L := X.L, σ, π } d r := by
  cases d <;> rfl

/-- The same operation, a temporary that it doesn't look at being set. -/
theorem vcM_put {o : Oper} {X : St} {d : Option Tmp} {r : TV} (h : ∀ x ∈ o.op.operands, (X.put d r).eval x = X.eval x) (hd : ∀ t, d = some t → o.dst ≠ some t) (hv : vcM P esc o (X.put d r) K Qp) :
    vcM P esc o X (fun X' => K (X'.put d r)) (fun v X' => Qp v (X'.put d r)) := by
  unfold vcM at *
  simp only [put_L, put_σ, put_π] at hv
  split at hv
  · rename_i t a x ho
    simp only [ho, Op.operands] at h ⊢
    rw [h x (by simp), h a (by simp)] at hv
    split at hv
    · exact hv.elim
    · split at hv
      · split at hv
        · split at hv
          · rw [pcomm hd] at hv; exact hv
          · exact hv.elim
        · exact hv.elim
      · obtain ⟨cs, h1, h2, h3, h4⟩ := hv
        rw [pcomm hd] at h4
        exact ⟨cs, h1, h2, h3, h4⟩
      · exact hv.elim
  · rename_i t ho
    simp only [ho]
    split at hv
    · refine fun l hl => ?_
      have := hv l hl
      rw [pcomm hd] at this
      exact this
    · exact hv.elim
  · rename_i t x ho
    simp only [ho, Op.operands] at h ⊢
    rw [h x (by simp)] at hv
    split at hv
    · refine fun l hl => ?_
      have := hv l hl
      rw [pcomm hd] at this
      exact this
    · exact hv.elim
  · rename_i t x ho
    simp only [ho]
    split at hv
    · refine fun l hl => ?_
      have := hv l hl
      rw [pcomm hd] at this
      exact this
    · exact hv.elim
  · rename_i t m k v ho
    simp only [ho, Op.operands] at h ⊢
    rw [h m (by simp), h k (by simp), h v (by simp)] at hv
    split at hv
    · exact hv.elim
    · split at hv
      · obtain ⟨f, h1, h2⟩ := hv
        rw [pcomm hd] at h2
        exact ⟨f, h1, h2⟩
      · exact hv.elim
  · rename_i x ho
    simp only [ho, Op.operands] at h ⊢
    rw [h x (by simp)] at hv
    split at hv
    · exact hv
    · exact hv.elim
  · rename_i c ho
    simp only [ho, Op.operands, Call.operands] at h ⊢
    have ha : ∀ x ∈ c.args.toList, (X.put d r).eval x = X.eval x := fun x hx => h x (by simp; right; simpa using hx)
    have h0 : ∀ (i : Nat) x, c.args[i]? = some x → (X.put d r).eval x = X.eval x := fun i x hx => ha x (by simpa using Array.mem_of_getElem? hx)
    split at hv
    · split at hv
      · rename_i t tx x y _ _ hx hy
        split at hv
        · rw [h0 0 x hx, h0 1 y hy] at hv
          unfold vcAppend at *
          simp only [put_L, put_σ, put_π] at hv
          split at hv
          · exact hv.elim
          · split at hv
            · obtain ⟨h1, h2, h3, h4⟩ := hv
              refine ⟨h1, h2, h3, ?_⟩
              split at h4
              · refine ⟨h4.1, fun t' ht' => ?_⟩
                have := h4.2 t' ht'
                rw [pcomm hd] at this
                exact this
              · refine ⟨h4.1, ?_⟩
                have := h4.2
                rw [put_put hd] at this
                exact this
              · split at h4
                · rw [put_put hd] at h4
                  exact h4
                · intro t' ht'
                  have := h4 t' ht'
                  rw [pcomm hd] at this
                  exact this
            · exact hv.elim
        · exact hv.elim
      · exact hv.elim
    · rename_i f hcal
      rw [h f (by simp [hcal]), evals_congr ha] at hv
      split at hv
      · refine hv.mono fun x σ' π' hr => ?_
        cases x with
        | ret v =>
          simp only [] at hr ⊢
          rw [pcomm hd] at hr
          exact hr
        | panic v =>
          simp only [] at hr ⊢
          rw [pcomm0] at hr
          exact hr
      · exact hv.elim
    · exact hv.elim
  · exact hv.elim

theorem vcE_put {o : Oper} {X : St} {d : Option Tmp} {r : TV} (hd : ∀ t, d = some t → o.dst ≠ some t) {er : ER} (hv : vcE o (X.put d r) K er) : vcE o X (fun X' => K (X'.put d r)) er := by
  cases er with
  | no => exact hv
  | ok r' => have h : K ((X.put d r).put o.dst r') := hv; rw [put_put hd] at h; exact h
  | box cs =>
    cases ho : o.dst with
    | none => simp only [vcE, ho] at hv
    | some d' =>
      simp only [vcE, ho, put_L, put_σ, put_π] at hv ⊢
      split at hv
      · rw [pcomm (by rw [← ho]; exact hd)] at hv
        exact hv
      · exact hv.elim
  | split b x y =>
    cases b with
    | true => have h : K ((X.put d r).put o.dst x) := hv; rw [put_put hd] at h; exact h
    | false => have h : K ((X.put d r).put o.dst y) := hv; rw [put_put hd] at h; exact h
  | ex p f => obtain ⟨e, h1, h2⟩ := hv; rw [put_put hd] at h2; exact ⟨e, h1, h2⟩
  | rd l f => obtain ⟨ob, h1, r', h2, h3⟩ := hv; rw [put_σ] at h1; rw [put_put hd] at h3; exact ⟨ob, h1, r', h2, h3⟩

/-- Is the operation to be run? -/
def gB (ops : Array Oper) (o : Oper) (X : St) : Option Bool := match o.guard with
  | none => some true
  | some (j, want) => match (ops[j]?).bind (·.dst) with
    | some t => match X.T t with
      | .val (.raw (.bool b)) _ => some (b == want)
      | .val (.raw (.tuple _)) _ => some false
      | _ => none
    | none => none

theorem put_self {X : St} {t : Tmp} {r : TV} (h : X.T t = r) : X.put (some t) r = X := by
  simp only [St.put]
  cases X with
  | mk T L σ π =>
    congr 1
    funext n
    by_cases e : n = t
    · subst e; rw [upd_same]; exact h.symm
    · rw [upd_ne _ _ e]

theorem vcG_iff {o : Oper} {X : St} {run skip : St → Prop} : vcG ops o X run skip ↔ match gB ops o X with
    | some true => run X
    | some false => skip X
    | none => False := by
  unfold vcG gB
  cases hg : o.guard with
  | none => exact Iff.rfl
  | some p =>
    obtain ⟨j, want⟩ := p
    cases ht : (ops[j]?).bind (·.dst) with
    | none => simp only [ht]
    | some t =>
      simp only [ht]
      cases hT : X.T t with
      | val v ow =>
        cases v with
        | raw u =>
          cases u with
          | bool b => cases b <;> cases want <;> simp [put_self hT]
          | _ => exact Iff.rfl
        | _ => exact Iff.rfl
      | _ => exact Iff.rfl

/-- An operation that changes nothing, done here, yields this. -/
def NM (P : Program) (esc : List Nat) (ops : Array Oper) (o : Oper) (X : St) (r : TV) : Prop := match gB ops o X with
  | some true => match ev P esc o X with
    | .ok r' => r = r'
    | .split b x y => r = if b then x else y
    | .ex p f => ∃ e, p e ∧ r = f e
    | .rd l f => ∃ ob, X.σ l = some ob ∧ f ob = some r
    | _ => False
  | some false => r = tvU
  | none => False

/-- It yields it as long as what it looks at stays. -/
def Stab (P : Program) (esc : List Nat) (ops : Array Oper) (o : Oper) (r : TV) (inf : Option (Nat × Obj)) (X : St) : Prop :=
  ∀ X' : St, (∀ t ∈ o.looksAt ops, X'.T t = X.T t) → (isLoad o = true → ∀ k cs, X.L k = some cs → X'.L k = some cs) → (∀ l ob, inf = some (l, ob) → X'.σ l = some ob) → NM P esc ops o X' r

theorem eval_looks {o : Oper} {X X' : St} (h : ∀ t ∈ o.looksAt ops, X'.T t = X.T t) : ∀ x ∈ o.op.operands, X'.eval x = X.eval x := by
  intro x hx
  cases x with
  | tmp t => exact h t (List.mem_append_left _ (List.mem_filterMap.2 ⟨.tmp t, by simpa using hx, rfl⟩))
  | _ => rfl

theorem gB_congr {o : Oper} {X X' : St} (h : ∀ t ∈ o.looksAt ops, X'.T t = X.T t) : gB ops o X' = gB ops o X := by
  unfold gB
  split
  · rfl
  · rename_i j want hg
    split
    · rename_i t ht
      rw [h t (List.mem_append_right _ (by simp [hg, ht]))]
    · rfl

theorem Stab.mk {o : Oper} {X : St} {r : TV} (hmd : isMd esc o = false) (hnm : NM P esc ops o X r) :
    ∃ inf, Stab P esc ops o r inf X ∧ (∀ l ob, inf = some (l, ob) → X.σ l = some ob ∧ gB ops o X = some true ∧ ∃ f, ev P esc o X = .rd l f ∧ f ob = some r) ∧ (inf = none → ∀ l f, gB ops o X = some true → ev P esc o X ≠ .rd l f) := by
  unfold NM at hnm
  split at hnm
  · rename_i hg
    cases hev : ev P esc o X with
    | no => rw [hev] at hnm; exact hnm.elim
    | box cs => rw [hev] at hnm; exact hnm.elim
    | rd l f =>
      rw [hev] at hnm
      obtain ⟨ob, h1, h2⟩ := hnm
      refine ⟨some (l, ob), fun X' hT hL hσ => ?_, fun l' ob' e => ?_, fun e => (by cases e)⟩
      · unfold NM
        rw [gB_congr hT, hg, ev_congr (eval_looks hT) (.inr ⟨hmd, hL⟩) (by rw [hev]; simp), hev]
        exact ⟨ob, hσ l ob rfl, h2⟩
      · cases e; exact ⟨h1, hg, f, rfl, h2⟩
    | _ =>
      rw [hev] at hnm
      refine ⟨none, fun X' hT hL _ => ?_, fun l' ob' e => (by cases e), fun _ l f _ => (by simp)⟩
      unfold NM
      rw [gB_congr hT, hg, ev_congr (eval_looks hT) (.inr ⟨hmd, hL⟩) (by rw [hev]; simp), hev]
      exact hnm
  · rename_i hg
    refine ⟨none, fun X' hT _ _ => ?_, fun l' ob' e => (by cases e), fun _ l f h => (by rw [hg] at h; cases h)⟩
    unfold NM
    rw [gB_congr hT, hg]
    exact hnm
  · exact hnm.elim

theorem Stab.now {o : Oper} {X : St} {r : TV} {inf : Option (Nat × Obj)} (h : Stab P esc ops o r inf X) (hσ : ∀ l ob, inf = some (l, ob) → X.σ l = some ob) : NM P esc ops o X r :=
  h X (fun _ _ => rfl) (fun _ _ _ h => h) hσ

theorem vcAnyO_fewer : ∀ {fuel : Nat} {listed : Array Bool} {X : St} {x : Nat × Nat × Obj} {obl : List (Nat × Nat × Obj)}, vcAnyO P esc ops K Qp fuel listed X (x :: obl) → vcAnyO P esc ops K Qp fuel listed X obl
  | 0, _, _, _, _, h => h
  | fuel + 1, listed, X, x, obl, h => by
    refine ⟨h.1, fun i hi => ?_⟩
    have h1 := h.2 i hi
    split at h1
    · exact vcAnyO_fewer h1
    · refine vcG_mono (fun X hX => vcOp_mono (fun X' hX' => ⟨fun hm => ?_, vcAnyO_fewer hX'.2⟩) (fun _ _ h => h) hX) (fun X hX => vcAnyO_fewer hX) h1
      have := hX'.1 hm
      obtain ⟨r, l, ob⟩ := x
      simp only [Obl] at this
      split at this
      · exact this
      · exact this.2

/-- The list of what is owed, with one more, if it is one. -/
def addO (i : Nat) (inf : Option (Nat × Obj)) (obl : List (Nat × Nat × Obj)) : List (Nat × Nat × Obj) := match inf with
  | some (l, ob) => (i, l, ob) :: obl
  | none => obl

theorem vcAnyO_addO {i : Nat} {inf : Option (Nat × Obj)} {fuel : Nat} {listed : Array Bool} {X : St} {obl : List (Nat × Nat × Obj)} (h : vcAnyO P esc ops K Qp fuel listed X (addO i inf obl)) : vcAnyO P esc ops K Qp fuel listed X obl := by
  cases inf with
  | none => exact h
  | some x => exact vcAnyO_fewer h

theorem waitsOn_spec {i j : Nat} {oj : Oper} (hj : ops[j]? = some oj) (h : ∀ e ∈ oj.after, Region.binds .any e = true → e.on ≠ i) : waitsOn ops j i = false := by
  unfold waitsOn
  simp only [hj]
  rw [Bool.eq_false_iff]
  intro hh
  obtain ⟨e, he, hb⟩ := List.any_eq_true.1 hh
  simp only [Bool.and_eq_true, Nat.beq_eq] at hb
  exact h e (by simpa using he) hb.1 hb.2

/-- All that a listed operation waits for is listed. -/
def DC (ops : Array Oper) (listed : Array Bool) : Prop := ∀ k o, ops[k]? = some o → listed.getD k false = true → ∀ e ∈ o.after, Region.binds .any e = true → listed.getD e.on false = true

def Aft (ops : Array Oper) (listed : Array Bool) (k : Nat) : Prop := ∀ o, ops[k]? = some o → ∀ e ∈ o.after, Region.binds .any e = true → listed.getD e.on false = true

theorem tMask_spec {acc : List Nat} {i : Nat} : ∀ {l : List Edge}, (∀ e ∈ l, Region.binds .any e = true → e.on ≠ i ∧ ((acc[e.on]?).getD 0).testBit i = false) → (tMask acc l).testBit i = false
  | [], _ => by simp [tMask]
  | e :: r, h => by
    have ih := tMask_spec (acc := acc) (i := i) (l := r) fun e' he' => h e' (by simp [he'])
    unfold tMask
    split
    · rename_i hb
      obtain ⟨h1, h2⟩ := h e (by simp) hb
      show ((Nat.shiftLeft 1 e.on ||| (acc[e.on]?).getD 0) ||| tMask acc r).testBit i = false
      have h3 : (Nat.shiftLeft 1 e.on).testBit i = false := by
        show (1 <<< e.on).testBit i = false
        rw [Nat.shiftLeft_eq, Nat.one_mul, Nat.testBit_two_pow]
        simpa using h1
      rw [Nat.testBit_or, Nat.testBit_or, h3, h2, ih]; rfl
    · exact ih

theorem tAll_spec {listed : Array Bool} {i : Nat} (hdc : DC ops listed) (hi : listed.getD i false = false) : ∀ (l : List Oper) (acc : List Nat), (∀ k, l[k]? = ops[acc.length + k]?) →
    (∀ k T, acc[k]? = some T → Aft ops listed k → T.testBit i = false) → ∀ k T, (tAll l acc)[k]? = some T → Aft ops listed k → T.testBit i = false
  | [], acc, _, h, k, T, hk, ha => h k T hk ha
  | o :: r, acc, hl, h, k, T, hk, ha => by
    have ho : ops[acc.length]? = some o := by have := hl 0; simpa using this.symm
    refine tAll_spec hdc hi r (acc ++ [tMask acc o.after.toList]) (fun k => by have := hl (k + 1); simp only [List.getElem?_cons_succ] at this; rw [this]; congr 1; simp; omega) (fun k' T' hk' ha' => ?_) k T hk ha
    by_cases e : k' < acc.length
    · rw [List.getElem?_append_left e] at hk'
      exact h k' T' hk' ha'
    · have : k' = acc.length := by
        have := (List.getElem?_eq_some_iff.1 hk').1
        simp at this; omega
      subst this
      simp at hk'
      subst hk'
      refine tMask_spec fun e he hb => ?_
      have h1 := ha' o ho e (by simpa using he) hb
      refine ⟨fun e' => (by rw [e', hi] at h1; cases h1), ?_⟩
      cases ht : acc[e.on]? with
      | none => simp
      | some T => exact h e.on T ht fun o' ho' => hdc e.on o' ho' h1

theorem waitsT_spec {listed : Array Bool} {i j : Nat} (hdc : DC ops listed) (hi : listed.getD i false = false) (hj : Aft ops listed j) : waitsT ops j i = false := by
  unfold waitsT
  rw [← Bool.not_eq_true, Nat.beq_eq]
  have h1 : (((tAll ops.toList [])[j]?).getD 0).testBit i = false := by
    cases ht : (tAll ops.toList [])[j]? with
    | none => simp
    | some T => exact tAll_spec hdc hi ops.toList [] (fun k => by simp) (fun k T h => by simp at h) j T ht hj
  intro h2
  have h3 : ((((tAll ops.toList [])[j]?).getD 0) >>> i) &&& 1 = 1 := h2
  rw [Nat.testBit_eq_decide_div_mod_eq] at h1
  rw [Nat.and_one_is_mod, Nat.shiftRight_eq_div_pow] at h3
  simp [h3] at h1

theorem noSt_spec {listed : Array Bool} {i : Nat} {o : Oper} (h : noSt ops listed i o = true) (hl : isLoad o = true) {j : Nat} {oj : Oper} (hj : ops[j]? = some oj) (hun : listed.getD j true = false) (hji : j ≠ i) (hw : waitsT ops j i = false) :
    ∀ t a x, oj.op ≠ .store t a x := by
  unfold noSt at h
  rw [hl] at h
  simp only [List.all_eq_true, List.mem_range] at h
  have h1 := h j (Array.getElem?_eq_some_iff.1 hj).1
  have h2 : Nat.beq j i = false := by rw [← Bool.not_eq_true, Nat.beq_eq]; exact hji
  rw [hun, h2, hw] at h1
  intro t a x e
  simp [isStore, hj, e] at h1

theorem Obl_addO {j i : Nat} {σ : Store} {inf : Option (Nat × Obj)} {obl : List (Nat × Nat × Obj)} (h : Obl ops j σ (addO i inf obl)) : Obl ops j σ obl := by
  cases inf with
  | none => exact h
  | some x =>
    obtain ⟨l, ob⟩ := x
    simp only [addO, Obl] at h
    split at h
    · exact h
    · exact h.2

theorem Obl_head {j i : Nat} {σ : Store} {inf : Option (Nat × Obj)} {obl : List (Nat × Nat × Obj)} (h : Obl ops j σ (addO i inf obl)) (hw : waitsOn ops j i = false) : ∀ l ob, inf = some (l, ob) → σ l = some ob := by
  intro l ob e
  subst e
  simp only [addO, Obl, hw] at h
  exact h.1

theorem ready_un {listed : Array Bool} {i : Nat} (h : i ∈ Region.ready .any ops listed) : listed.getD i false = false := by
  have h0 := (mem_ready.1 h).1
  rcases Nat.lt_or_ge i listed.size with h' | h'
  · simp [h'] at h0 ⊢; exact h0
  · simp [Array.getElem?_eq_none h']

theorem ready_aft {listed : Array Bool} {j : Nat} (h : j ∈ Region.ready .any ops listed) : Aft ops listed j := fun o ho => by
  obtain ⟨_, oj, hoj, hall⟩ := mem_ready.1 h
  rw [ho] at hoj; cases hoj
  exact hall

theorem DC.set {listed : Array Bool} {j : Nat} (h : DC ops listed) (hj : j ∈ Region.ready .any ops listed) : DC ops (listed.setIfInBounds j true) := fun k o ho hk e he hb => by
  have mono : ∀ x, listed.getD x false = true → (listed.setIfInBounds j true).getD x false = true := fun x hx => by
    by_cases e : j = x
    · subst e
      rcases Nat.lt_or_ge j listed.size with h' | h'
      · simp [h']
      · simp [Array.getElem?_eq_none h'] at hx
    · rw [getD_set_ne false e]; exact hx
  by_cases e' : j = k
  · subst e'; exact mono _ (ready_aft hj o ho e he hb)
  · rw [getD_set_ne false e'] at hk
    exact mono _ (h k o ho hk e he hb)

/-- AN OPERATION THAT CHANGES NOTHING, AND MAY BE DONE NOW, MAY BE DONE FIRST. -/
theorem vcAnyO_first (hQ : ∀ v X d r, Qp v (X.put d r) → Qp v X) {i : Nat} {oi : Oper} {r : TV} {inf : Option (Nat × Obj)} (hi : ops[i]? = some oi) (hmd : isMd esc oi = false) :
    ∀ (fuel : Nat) (listed : Array Bool) (X : St) (obl : List (Nat × Nat × Obj)),
      (∀ j oj, ops[j]? = some oj → j ≠ i → listed.getD j true = false → (∀ e ∈ oj.after, Region.binds .any e = true → e.on ≠ i) → oi.apart ops oj = true ∧ (isLoad oi = true → waitsT ops j i = false → ∀ t a x, oj.op ≠ .store t a x)) → DC ops listed →
      i ∈ Region.ready .any ops listed → Stab P esc ops oi r inf X → (∀ l ob, inf = some (l, ob) → X.σ l = some ob) →
      vcAnyO P esc ops K Qp fuel (listed.setIfInBounds i true) (X.put oi.dst r) (addO i inf obl) → vcAnyO P esc ops K Qp (fuel + 1) listed X obl := by
  have own : ∀ (fuel : Nat) (listed : Array Bool) (X : St) (obl : List (Nat × Nat × Obj)), Stab P esc ops oi r inf X → (∀ l ob, inf = some (l, ob) → X.σ l = some ob) →
      vcAnyO P esc ops K Qp fuel (listed.setIfInBounds i true) (X.put oi.dst r) (addO i inf obl) →
      vcG ops oi X (fun X => vcOp P esc oi X (fun X' => (isMd esc oi = true → Obl ops i X'.σ obl) ∧ vcAnyO P esc ops K Qp fuel (listed.setIfInBounds i true) X' obl) Qp)
          (fun X => vcAnyO P esc ops K Qp fuel (listed.setIfInBounds i true) (X.put oi.dst tvU) obl) := fun fuel listed X obl hst hσ H => by
    have hnm := hst.now hσ
    rw [vcG_iff]
    unfold NM at hnm
    have hM : isM esc oi = false := by
      cases hm : isM esc oi with
      | false => rfl
      | true => simp [isMd, hm] at hmd
    split at hnm
    · rename_i hg
      try simp only [hg]
      unfold vcOp
      rw [hM]
      have hK : (isMd esc oi = true → Obl ops i (X.put oi.dst r).σ obl) ∧ vcAnyO P esc ops K Qp fuel (listed.setIfInBounds i true) (X.put oi.dst r) obl := ⟨fun h => (by rw [hmd] at h; cases h), vcAnyO_addO H⟩
      cases hev : ev P esc oi X with
      | no => rw [hev] at hnm; exact hnm.elim
      | box cs => rw [hev] at hnm; exact hnm.elim
      | ok r' => rw [hev] at hnm; subst hnm; exact hK
      | split b x y => rw [hev] at hnm; subst hnm; cases b <;> exact hK
      | ex p f => rw [hev] at hnm; obtain ⟨e, h1, rfl⟩ := hnm; exact ⟨e, h1, hK⟩
      | rd l f => rw [hev] at hnm; obtain ⟨ob, h1, h2⟩ := hnm; exact ⟨ob, h1, r, h2, hK⟩
    · rename_i hg
      try simp only [hg]
      subst hnm
      exact vcAnyO_addO H
    · exact hnm.elim
  intro fuel
  induction fuel with
  | zero =>
    intro listed X obl _ hdc hr hst hσ H
    refine ⟨fun h => (by rw [h] at hr; cases hr), fun j hj => ?_⟩
    by_cases hji : j = i
    · subst hji
      rw [hi]
      exact own 0 listed X obl hst hσ H
    · have := ready_mono hj hji
      rw [H.1] at this
      cases this
  | succ fuel ih =>
    intro listed X obl hfree hdc hr hst hσ H
    refine ⟨fun h => (by rw [h] at hr; cases hr), fun j hj => ?_⟩
    by_cases hji : j = i
    · subst hji
      rw [hi]
      exact own (fuel + 1) listed X obl hst hσ H
    · have h1 := H.2 j (ready_mono hj hji)
      obtain ⟨hjun, oj, hoj, hall⟩ := mem_ready.1 hj
      have hnot : ∀ e ∈ oj.after, Region.binds .any e = true → e.on ≠ i := fun e he hb heq => by
        have h1 := hall e he hb
        have h0 := (mem_ready.1 hr).1
        rw [heq] at h1
        rcases Nat.lt_or_ge i listed.size with h' | h'
        · simp [h'] at h0 h1; rw [h0] at h1; cases h1
        · simp [Array.getElem?_eq_none h'] at h1
      have hw := waitsOn_spec hoj hnot
      have hwT := waitsT_spec hdc (ready_un hr) (ready_aft hj)
      obtain ⟨hap, hns⟩ := hfree j oj hoj hji hjun hnot
      obtain ⟨a1, a2, a3⟩ := Oper.apart_spec hap
      have hfree' : ∀ k ok, ops[k]? = some ok → k ≠ i → (listed.setIfInBounds j true).getD k true = false →
          (∀ e ∈ ok.after, Region.binds .any e = true → e.on ≠ i) → oi.apart ops ok = true ∧ (isLoad oi = true → waitsT ops k i = false → ∀ t a x, ok.op ≠ .store t a x) := fun k ok hk hki hun hno => by
        refine hfree k ok hk hki ?_ hno
        by_cases hjk : j = k
        · subst hjk; exact hjun
        · rw [getD_set_ne true hjk] at hun; exact hun
      have hr' := ready_mono hr (Ne.symm hji)
      have hlook : ∀ t ∈ oj.looksAt ops, (X.put oi.dst r).T t = X.T t := fun t ht => put_T (fun e => a1 t e ht)
      rw [hoj] at h1 ⊢
      dsimp only at h1 ⊢
      rw [vcG_iff, gB_congr hlook] at h1
      rw [vcG_iff]
      -- what is done then
      have next : ∀ X', SR esc oj X X' → (∀ l ob, inf = some (l, ob) → X'.σ l = some ob) → vcAnyO P esc ops K Qp fuel ((listed.setIfInBounds i true).setIfInBounds j true) (X'.put oi.dst r) (addO i inf obl) →
          vcAnyO P esc ops K Qp (fuel + 1) (listed.setIfInBounds j true) X' obl := fun X' hsr hσ' hv => by
        refine ih (listed.setIfInBounds j true) X' obl hfree' (hdc.set hj) hr' (fun X'' hT hL hσ'' => ?_) hσ' ?_
        · refine hst X'' (fun t ht => ?_) (fun hl k cs hk => ?_) hσ''
          · rw [hT t ht]
            exact hsr.T t (fun e => a3 t e ht)
          · exact hL hl k cs (hsr.L (hns hl hwT) k cs hk)
        · rw [Array.setIfInBounds_comm _ _ hji]
          exact hv
      cases hg : gB ops oj X with
      | none => rw [hg] at h1; exact h1.elim
      | some b =>
        rw [hg] at h1
        cases b with
        | false =>
          dsimp only at h1 ⊢
          rw [put_put a2] at h1
          exact next _ SR.put (fun l ob e => by rw [put_σ]; exact hσ l ob e) h1
        | true =>
          dsimp only at h1 ⊢
          have h2 : vcOp P esc oj X (fun X' => (isMd esc oj = true → Obl ops j (X'.put oi.dst r).σ (addO i inf obl)) ∧ vcAnyO P esc ops K Qp fuel ((listed.setIfInBounds i true).setIfInBounds j true) (X'.put oi.dst r) (addO i inf obl)) Qp := by
            unfold vcOp at h1 ⊢
            split at h1
            · exact vcM_mono (fun _ h => h) (fun v X' h => hQ v X' _ _ h) (vcM_put (eval_looks hlook) a2 h1)
            · have h3 : ev P esc oj (X.put oi.dst r) = ev P esc oj X := by
                by_cases hne : ev P esc oj (X.put oi.dst r) = .no
                · rw [hne] at h1; exact h1.elim
                · exact (ev_congr (fun x hx => (eval_looks hlook x hx).symm) (.inl put_L.symm) hne).symm
              rw [h3] at h1
              exact vcE_put a2 h1
          refine vcOp_mono (fun X' hX' => ⟨fun hm => ?_, next X' hX'.2 (fun l ob e => ?_) hX'.1.2⟩) (fun _ _ h => h) (vcOp_SR h2)
          · have := Obl_addO (hX'.1.1 hm)
            rwa [put_σ] at this
          · cases hm : isMd esc oj with
            | true =>
              have := hX'.1.1 hm
              rw [put_σ] at this
              exact Obl_head this hw l ob e
            | false =>
              rw [hX'.2.σ (by cases h : isM esc oj with | false => rfl | true => simp [isMd, h] at hm)]
              exact hσ l ob e

theorem allL_mem {f : Nat → Prop} : ∀ {l : List Nat}, allL f l → ∀ i ∈ l, f i
  | [], _, i, h => by cases h
  | [j], h, i, hi => by
    have : i = j := by simpa using hi
    subst this; exact h
  | j :: k :: r, h, i, hi => by
    have h' : f j ∧ allL f (k :: r) := h
    rcases List.mem_cons.1 hi with rfl | hi
    · exact h'.1
    · exact allL_mem h'.2 i hi

theorem vcAnyO_of_red (hQ : ∀ v X d r, Qp v (X.put d r) → Qp v X) : ∀ (fuel : Nat) (listed : Array Bool) (X : St) (obl : List (Nat × Nat × Obj)), DC ops listed → vcRed P esc ops K Qp fuel listed X obl → vcAnyO P esc ops K Qp fuel listed X obl
  | 0, listed, X, obl, _, h => by
    unfold vcRed at h
    split at h
    · rename_i hr; rw [readyL_eq] at hr; exact ⟨hr, h⟩
    · exact h.elim
  | fuel + 1, listed, X, obl, hdc, h => by
    unfold vcRed at h
    split at h
    · rename_i i hpick
      have hmem := List.mem_of_find?_eq_some hpick
      rw [readyL_eq] at hmem
      have hp := List.find?_some hpick
      split at h
      · rename_i o ho
        rw [ho] at hp
        simp only [Bool.and_eq_true, Bool.not_eq_true'] at hp
        obtain ⟨⟨hmd, hfree⟩, hst⟩ := hp
        rw [freeL_eq] at hfree
        have hfr : ∀ j oj, ops[j]? = some oj → j ≠ i → listed.getD j true = false → (∀ e ∈ oj.after, Region.binds .any e = true → e.on ≠ i) → o.apart ops oj = true ∧ (isLoad o = true → waitsT ops j i = false → ∀ t a x, oj.op ≠ .store t a x) :=
          fun j oj hj hji hun hno => ⟨Region.free_spec ho hfree j oj hj hji hun hno, fun hl hw => noSt_spec hst hl hj hun hji hw⟩
        rw [vcG_iff] at h
        have go : ∀ r inf, NM P esc ops o X r → (∀ l f, gB ops o X = some true → ev P esc o X = .rd l f → ∃ ob, inf = some (l, ob) ∧ X.σ l = some ob ∧ f ob = some r) → ((∀ l f, gB ops o X = some true → ev P esc o X ≠ .rd l f) → inf = none) →
            vcRed P esc ops K Qp fuel (listed.setIfInBounds i true) (X.put o.dst r) (addO i inf obl) → vcAnyO P esc ops K Qp (fuel + 1) listed X obl := fun r inf hnm h1 h2 hv => by
          obtain ⟨inf', s1, s2, s3⟩ := Stab.mk hmd hnm
          have he : inf' = inf := by
            cases inf' with
            | none => exact (h2 (s3 rfl)).symm
            | some x =>
              obtain ⟨l, ob⟩ := x
              obtain ⟨a1, a2, f, a3, a4⟩ := s2 l ob rfl
              obtain ⟨ob', b1, b2, b3⟩ := h1 l f a2 a3
              rw [a1] at b2; cases b2
              exact b1.symm
          subst he
          exact vcAnyO_first hQ ho hmd fuel listed X obl hfr hdc hmem s1 (fun l ob e => (s2 l ob e).1) (vcAnyO_of_red hQ fuel _ _ _ (hdc.set hmem) hv)
        cases hg : gB ops o X with
        | none => rw [hg] at h; exact h.elim
        | some b =>
          rw [hg] at h
          cases b with
          | false =>
            dsimp only at h
            exact go tvU none (by unfold NM; rw [hg]) (fun l f h1 => by rw [hg] at h1; cases h1) (fun _ => rfl) h
          | true =>
            dsimp only at h
            cases hev : ev P esc o X with
            | no => rw [hev] at h; exact h.elim
            | box cs => rw [hev] at h; exact h.elim
            | ok r => rw [hev] at h; exact go r none (by unfold NM; rw [hg, hev]) (fun l f _ h1 => by rw [hev] at h1; cases h1) (fun _ => rfl) h
            | split b x y =>
              rw [hev] at h
              refine go (if b then x else y) none (by unfold NM; rw [hg, hev]) (fun l f _ h1 => by rw [hev] at h1; cases h1) (fun _ => rfl) ?_
              cases b <;> exact h
            | ex p f =>
              rw [hev] at h
              obtain ⟨e, h1, h2⟩ := h
              exact go (f e) none (by unfold NM; rw [hg, hev]; exact ⟨e, h1, rfl⟩) (fun l f' _ h1 => by rw [hev] at h1; cases h1) (fun _ => rfl) h2
            | rd l f =>
              rw [hev] at h
              obtain ⟨ob, h1, r, h2, h3⟩ := h
              exact go r (some (l, ob)) (by unfold NM; rw [hg, hev]; exact ⟨ob, h1, h2⟩) (fun l' f' _ h4 => by rw [hev] at h4; cases h4; exact ⟨ob, rfl, h1, h2⟩) (fun h4 => absurd hev (h4 l f hg)) h3
      · exact h.elim
    · split at h
      · rename_i hr
        rw [readyL_eq] at hr
        exact ⟨fun _ => h, fun i hi => by rw [hr] at hi; cases hi⟩
      · rename_i j r hr
        rw [readyL_eq] at hr
        refine ⟨fun h0 => (by rw [hr] at h0; cases h0), fun i hi => ?_⟩
        have hi0 := hi
        rw [hr] at hi
        have h1 := allL_mem h i hi
        split at h1
        · rename_i o ho
          rw [ho]
          exact vcG_mono (fun X hX => vcOp_mono (fun X' hX' => ⟨fun _ => hX'.1, vcAnyO_of_red hQ fuel _ _ _ (hdc.set hi0) hX'.2⟩) (fun _ _ h => h) hX) (fun X hX => vcAnyO_of_red hQ fuel _ _ _ (hdc.set hi0) hX) h1
        · exact h1.elim

theorem vcAny_of_O : ∀ {fuel : Nat} {listed : Array Bool} {X : St} {obl : List (Nat × Nat × Obj)}, vcAnyO P esc ops K Qp fuel listed X obl → vcAny P esc ops K Qp fuel listed X
  | 0, _, _, _, h => h
  | fuel + 1, listed, X, obl, h => by
    refine ⟨h.1, fun i hi => ?_⟩
    have h1 := h.2 i hi
    cases ho : ops[i]? with
    | none =>
      rw [ho] at h1
      exact vcAny_of_O h1
    | some o =>
      rw [ho] at h1
      exact vcG_mono (fun X hX => vcOp_mono (fun X' hX' => vcAny_of_O hX'.2) (fun _ _ h => h) hX) (fun X hX => vcAny_of_O hX) h1

theorem vcAny_of_red (hQ : ∀ v X d r, Qp v (X.put d r) → Qp v X) {fuel : Nat} {listed : Array Bool} {X : St} (hdc : DC ops listed) (h : vcRed P esc ops K Qp fuel listed X []) : vcAny P esc ops K Qp fuel listed X :=
  vcAny_of_O (vcAnyO_of_red hQ fuel listed X [] hdc h)
end
end Go.Lf
