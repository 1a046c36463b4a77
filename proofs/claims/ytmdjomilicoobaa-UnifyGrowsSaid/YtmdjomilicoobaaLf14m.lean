/- A small logic over the kit's calls. Part 14, more: regions that draw their order, by bits. -/
import Derived.Test.YtmdjomilicoobaaLf14
namespace Go.Lf
open Go

def maskOf (f : Nat → Bool) : Nat → Nat
  | 0 => 0
  | n + 1 => match f n with
    | true => Nat.lor (maskOf f n) (Nat.shiftLeft 1 n)
    | false => maskOf f n

theorem testBit_maskOf (f : Nat → Bool) : ∀ n j, (maskOf f n).testBit j = (decide (j < n) && f j)
  | 0, j => by simp [maskOf]
  | n + 1, j => by
    have ih := testBit_maskOf f n j
    have h1 : (Nat.shiftLeft 1 n).testBit j = decide (j = n) := by
      show (1 <<< n).testBit j = _
      rw [Nat.shiftLeft_eq, Nat.one_mul, Nat.testBit_two_pow]
      exact decide_eq_decide.2 eq_comm
    unfold maskOf
    split
    · rename_i h
      show (maskOf f n ||| Nat.shiftLeft 1 n).testBit j = _
      rw [Nat.testBit_or, ih, h1]
      by_cases e : j = n
      · subst e; simp [h]
      · have : (j < n) = (j < n + 1) := by simp; omega
        simp [e, this]
    · rename_i h
      rw [ih]
      by_cases e : j = n
      · subst e; simp [h]
      · have : (j < n) = (j < n + 1) := by simp; omega
        simp [this]

def subM (a b : Nat) : Bool := Nat.beq (Nat.land a b) a

theorem subM_iff {a b : Nat} : subM a b = true ↔ ∀ j, a.testBit j = true → b.testBit j = true := by
  unfold subM
  rw [Nat.beq_eq]
  constructor
  · intro h j hj
    have : (a &&& b).testBit j = true := by rw [show a &&& b = a from h]; exact hj
    rw [Nat.testBit_and] at this
    simp at this; exact this.2
  · intro h
    show a &&& b = a
    apply Nat.eq_of_testBit_eq
    intro j
    rw [Nat.testBit_and]
    cases e : a.testBit j with
    | false => rfl
    | true => rw [h j e]; rfl

/-- All that is waited for is there. -/
def ordOk (ops : Array Oper) : Bool := ops.toList.all fun o => o.after.toList.all fun e => !Region.binds .any e || Nat.blt e.on ops.size

/-- Whom the operation waits for. -/
def waitM (ops : Array Oper) (i : Nat) : Nat := maskOf (waitsOn ops i) ops.size

/-- Who must be through ahead of it, if it changes nothing. -/
def confB (ops : Array Oper) (i : Nat) (j : Nat) : Bool := match ops[i]?, ops[j]? with
  | some oi, some oj => !Nat.beq j i && ((!waitsOn ops j i && !oi.apart ops oj) || (isLoad oi && !waitsT ops j i && isStore ops j))
  | _, _ => false
def confM (ops : Array Oper) (i : Nat) : Nat := maskOf (confB ops i) ops.size

def bitB (m i : Nat) : Bool := Nat.beq (Nat.land (Nat.shiftRight m i) 1) 1

theorem bitB_eq (m i : Nat) : bitB m i = m.testBit i := by
  unfold bitB
  rw [Bool.eq_iff_iff, Nat.beq_eq, Nat.testBit_eq_decide_div_mod_eq]
  show (m >>> i) &&& 1 = 1 ↔ _
  rw [Nat.and_one_is_mod, Nat.shiftRight_eq_div_pow]
  simp

def rdyB (ops : Array Oper) (m i : Nat) : Bool := match bitB m i with
  | true => false
  | false => subM (waitM ops i) m

def findL (f : Nat → Bool) : List Nat → Option Nat
  | [] => none
  | i :: r => match f i with
    | true => some i
    | false => findL f r

def filtL (f : Nat → Bool) : List Nat → List Nat
  | [] => []
  | i :: r => match f i with
    | true => i :: filtL f r
    | false => filtL f r

theorem findL_eq (f : Nat → Bool) : ∀ l, findL f l = l.find? f
  | [] => rfl
  | i :: r => by unfold findL; rw [List.find?_cons]; split <;> simp_all [findL_eq f r]
theorem filtL_eq (f : Nat → Bool) : ∀ l, filtL f l = l.filter f
  | [] => rfl
  | i :: r => by unfold filtL; rw [List.filter_cons]; split <;> simp_all [filtL_eq f r]

def pickB (esc : List Nat) (ops : Array Oper) (m i : Nat) : Bool := match rdyB ops m i with
  | false => false
  | true => match ops[i]? with
    | some o => match isMd esc o with
      | true => false
      | false => subM (confM ops i) m
    | none => false

/-- One step of it. -/
def stepM (P : Program) (esc : List Nat) (ops : Array Oper) (ix : List Nat) (K : St → Prop) (Qp : V → St → Prop) (rec : Nat → St → List (Nat × Nat × Obj) → Prop) (m : Nat) (X : St) (obl : List (Nat × Nat × Obj)) : Prop :=
  match findL (pickB esc ops m) ix with
    | some i => match ops[i]? with
      | some o => vcG ops o X (fun X => match ev P esc o X with
          | .ok r => rec (Nat.lor m (Nat.shiftLeft 1 i)) (X.put o.dst r) obl
          | .split b x y => match b with
            | true => rec (Nat.lor m (Nat.shiftLeft 1 i)) (X.put o.dst x) obl
            | false => rec (Nat.lor m (Nat.shiftLeft 1 i)) (X.put o.dst y) obl
          | .ex p f => ∃ e, p e ∧ rec (Nat.lor m (Nat.shiftLeft 1 i)) (X.put o.dst (f e)) obl
          | .rd l f => ∃ ob, X.σ l = some ob ∧ ∃ r, f ob = some r ∧ rec (Nat.lor m (Nat.shiftLeft 1 i)) (X.put o.dst r) ((i, l, ob) :: obl)
          | _ => False) (fun X => rec (Nat.lor m (Nat.shiftLeft 1 i)) (X.put o.dst tvU) obl)
      | none => False
    | none => match filtL (rdyB ops m) ix with
      | [] => K X
      | j :: r => allL (fun i => match ops[i]? with
          | some o => vcG ops o X (fun X => vcOp P esc o X (fun X' => Obl ops i X'.σ obl ∧ rec (Nat.lor m (Nat.shiftLeft 1 i)) X' obl) Qp) (fun X => rec (Nat.lor m (Nat.shiftLeft 1 i)) (X.put o.dst tvU) obl)
          | none => False) (j :: r)

noncomputable def vcRedM (P : Program) (esc : List Nat) (ops : Array Oper) (ix : List Nat) (K : St → Prop) (Qp : V → St → Prop) (fuel : Nat) : Nat → St → List (Nat × Nat × Obj) → Prop :=
  Nat.rec (motive := fun _ => Nat → St → List (Nat × Nat × Obj) → Prop) (fun m X _ => match filtL (rdyB ops m) ix with
    | [] => K X
    | _ :: _ => False) (fun _ ih m X obl => stepM P esc ops ix K Qp ih m X obl) fuel

section
variable {P : Program} {esc : List Nat} {ops : Array Oper} {K : St → Prop} {Qp : V → St → Prop}

/-- The bits stand for the list. -/
def RpM (ops : Array Oper) (listed : Array Bool) (m : Nat) : Prop := listed.size = ops.size ∧ (∀ i, i < ops.size → listed[i]? = some (m.testBit i)) ∧ ∀ i, ops.size ≤ i → m.testBit i = false

theorem RpM.set {listed : Array Bool} {m i : Nat} (h : RpM ops listed m) (hi : i < ops.size) : RpM ops (listed.setIfInBounds i true) (Nat.lor m (Nat.shiftLeft 1 i)) := by
  have h1 : ∀ j, (Nat.lor m (Nat.shiftLeft 1 i)).testBit j = (m.testBit j || decide (j = i)) := fun j => by
    show (m ||| (1 <<< i)).testBit j = _
    rw [Nat.testBit_or, Nat.shiftLeft_eq, Nat.one_mul, Nat.testBit_two_pow]
    congr 1
    exact decide_eq_decide.2 eq_comm
  refine ⟨by simp [h.1], fun j hj => ?_, fun j hj => ?_⟩
  · rw [h1, Array.getElem?_setIfInBounds]
    by_cases e : i = j
    · subst e; simp [h.1, hi]
    · rw [if_neg e, h.2.1 j hj]
      have : ¬ j = i := fun e' => e e'.symm
      simp [this]
  · rw [h1, h.2.2 j hj]
    have : ¬ j = i := by omega
    simp [this]

theorem RpM.getD {listed : Array Bool} {m i : Nat} {d : Bool} (h : RpM ops listed m) (hi : i < ops.size) : listed.getD i d = m.testBit i := by
  rw [Array.getD_eq_getD_getElem?, h.2.1 i hi]; rfl

theorem RpM.ready {listed : Array Bool} {m : Nat} (h : RpM ops listed m) (hok : ordOk ops = true) {i : Nat} (hi : i < ops.size) :
    (!listed.getD i true && match ops[i]? with
      | some o => o.after.toList.all fun e => !Region.binds .any e || listed.getD e.on false
      | none => false) = rdyB ops m i := by
  rw [h.getD hi]
  unfold rdyB
  rw [bitB_eq]
  cases hb : m.testBit i with
  | true => rfl
  | false =>
    simp only [Bool.not_false, Bool.true_and]
    obtain ⟨o, ho⟩ : ∃ o, ops[i]? = some o := ⟨ops[i], by simp [hi]⟩
    simp only [ho]
    rw [Bool.eq_iff_iff, subM_iff, List.all_eq_true]
    have hlt : ∀ e ∈ o.after.toList, Region.binds .any e = true → e.on < ops.size := fun e he hbe => by
      have h1 := List.all_eq_true.1 (List.all_eq_true.1 hok o (by simpa using Array.mem_of_getElem? ho)) e he
      rw [hbe] at h1
      simp only [Bool.not_true, Bool.false_or] at h1
      exact (Nat.ble_eq ▸ h1 : e.on + 1 ≤ ops.size)
    constructor
    · intro hall j hj
      unfold waitM at hj
      rw [testBit_maskOf] at hj
      simp only [Bool.and_eq_true, decide_eq_true_eq, waitsOn, ho, List.any_eq_true, Nat.beq_eq] at hj
      obtain ⟨hjn, e, he, hbe, hej⟩ := hj
      have h2 := hall e he
      rw [hbe] at h2
      simp only [Bool.not_true, Bool.false_or] at h2
      rw [h.getD (by omega)] at h2
      rw [← hej]; exact h2
    · intro hall e he
      cases hbe : Region.binds .any e with
      | false => rfl
      | true =>
        have h3 := hlt e he hbe
        rw [h.getD h3]
        have := hall e.on (by
          unfold waitM
          rw [testBit_maskOf]
          simp only [Bool.and_eq_true, decide_eq_true_eq, waitsOn, ho, List.any_eq_true, Nat.beq_eq]
          exact ⟨h3, e, he, hbe, rfl⟩)
        rw [this]; rfl

theorem RpM.readyL {listed : Array Bool} {m : Nat} (h : RpM ops listed m) (hok : ordOk ops = true) : Lf.readyL ops listed = filtL (rdyB ops m) (List.range ops.size) := by
  rw [filtL_eq]
  unfold Lf.readyL
  apply List.filter_congr
  intro i hi
  exact h.ready hok (by simpa using hi)

theorem find_congr {p q : Nat → Bool} : ∀ {l : List Nat}, (∀ i ∈ l, p i = q i) → l.find? p = l.find? q
  | [], _ => rfl
  | i :: r, h => by
    rw [List.find?_cons, List.find?_cons, h i (by simp), find_congr (fun j hj => h j (by simp [hj]))]

theorem RpM.pick {listed : Array Bool} {m : Nat} (h : RpM ops listed m) (hok : ordOk ops = true) : pickI esc ops listed = findL (pickB esc ops m) (List.range ops.size) := by
  rw [findL_eq]
  unfold pickI
  rw [h.readyL hok, filtL_eq, List.find?_filter]
  apply find_congr
  intro i hi
  have hi : i < ops.size := by simpa using hi
  obtain ⟨o, ho⟩ : ∃ o, ops[i]? = some o := ⟨ops[i], by simp [hi]⟩
  unfold pickB
  simp only [ho]
  cases h1 : rdyB ops m i with
  | false => simp
  | true =>
    cases h2 : isMd esc o with
    | true => simp
    | false =>
      simp only [Bool.not_false, Bool.true_and]
      rw [Bool.eq_iff_iff, subM_iff]
      simp only [Bool.and_eq_true, decide_eq_true_eq, true_and]
      have key : freeL ops listed i = true ↔ ∀ j, j < ops.size → (Nat.beq j i || m.testBit j || match ops[j]? with | some oj => (oj.after.toList.any fun e => Region.binds .any e && Nat.beq e.on i) || o.apart ops oj | none => true) = true := by
        unfold freeL
        simp only [ho, List.all_eq_true, List.mem_range]
        constructor
        · intro hh j hj; have := hh j hj; rwa [h.getD hj] at this
        · intro hh j hj; rw [h.getD hj]; exact hh j hj
      have key2 : noSt ops listed i o = true ↔ (isLoad o = true → ∀ j, j < ops.size → (m.testBit j || Nat.beq j i || waitsT ops j i || !isStore ops j) = true) := by
        unfold noSt
        cases hl : isLoad o with
        | false => simp
        | true =>
          simp only [List.all_eq_true, List.mem_range, true_implies]
          constructor
          · intro hh j hj; have := hh j hj; rwa [h.getD hj] at this
          · intro hh j hj; rw [h.getD hj]; exact hh j hj
      rw [key, key2]
      constructor
      · rintro ⟨ha, hb⟩ j hj
        unfold confM at hj
        rw [testBit_maskOf] at hj
        simp only [Bool.and_eq_true, decide_eq_true_eq] at hj
        obtain ⟨hjn, hc⟩ := hj
        obtain ⟨oj, hoj⟩ : ∃ o, ops[j]? = some o := ⟨ops[j], by simp [hjn]⟩
        have ha' := ha j hjn
        unfold confB at hc
        simp only [ho, hoj, Bool.and_eq_true, Bool.not_eq_true', Bool.or_eq_true] at hc ha'
        obtain ⟨hc1, hc3⟩ := hc
        rcases hc3 with ⟨hc2, hc3⟩ | ⟨hc3, hc4⟩
        · have hw : (oj.after.toList.any fun e => Region.binds .any e && Nat.beq e.on i) = false := by
            have := hc2; unfold waitsOn at this; rwa [hoj] at this
          rw [hc1, hw, hc3] at ha'
          simpa using ha'
        · have := hb hc3.1 j hjn
          rw [hc1, hc3.2, hc4] at this
          simpa using this
      · intro hall
        have base : ∀ j, j < ops.size → m.testBit j = false → confB ops i j = false := fun j hj hm => by
          cases hc : confB ops i j with
          | false => rfl
          | true =>
            have := hall j (by unfold confM; rw [testBit_maskOf]; simp [hj, hc])
            rw [this] at hm; cases hm
        refine ⟨fun j hj => ?_, fun hl j hj => ?_⟩
        · cases hm : m.testBit j with
          | true => simp
          | false =>
            have hb := base j hj hm
            obtain ⟨oj, hoj⟩ : ∃ o, ops[j]? = some o := ⟨ops[j], by simp [hj]⟩
            unfold confB at hb
            simp only [ho, hoj] at hb ⊢
            have hw : waitsOn ops j i = (oj.after.toList.any fun e => Region.binds .any e && Nat.beq e.on i) := by unfold waitsOn; rw [hoj]
            rw [hw] at hb
            revert hb
            cases Nat.beq j i <;> cases (oj.after.toList.any fun e => Region.binds .any e && Nat.beq e.on i) <;> cases o.apart ops oj <;> simp
        · cases hm : m.testBit j with
          | true => simp
          | false =>
            have hb := base j hj hm
            obtain ⟨oj, hoj⟩ : ∃ o, ops[j]? = some o := ⟨ops[j], by simp [hj]⟩
            unfold confB at hb
            simp only [ho, hoj] at hb
            revert hb
            rw [hl]
            cases Nat.beq j i <;> cases waitsOn ops j i <;> cases waitsT ops j i <;> cases o.apart ops oj <;> cases isStore ops j <;> simp

theorem allL_iff {f : Nat → Prop} : ∀ {l : List Nat}, allL f l ↔ ∀ i ∈ l, f i
  | [] => by simp [allL]
  | [i] => by simp [allL]
  | i :: j :: r => by
    show (f i ∧ allL f (j :: r)) ↔ _
    rw [allL_iff (l := j :: r)]
    simp

/-- By bits, it is the same. -/
theorem vcRedM_red (hok : ordOk ops = true) : ∀ (fuel m : Nat) (listed : Array Bool) (X : St) (obl : List (Nat × Nat × Obj)), RpM ops listed m →
    vcRedM P esc ops (List.range ops.size) K Qp fuel m X obl → vcRed P esc ops K Qp fuel listed X obl
  | 0, m, listed, X, obl, h, hv => by
    unfold vcRed
    rw [h.readyL hok]; exact hv
  | fuel + 1, m, listed, X, obl, h, hv => by
    unfold vcRed
    change stepM P esc ops (List.range ops.size) K Qp (vcRedM P esc ops (List.range ops.size) K Qp fuel) m X obl at hv
    unfold stepM at hv
    rw [h.pick hok]
    have hlt : ∀ {i : Nat} {o : Oper}, ops[i]? = some o → i < ops.size := fun h => (Array.getElem?_eq_some_iff.1 h).1
    cases hp : findL (pickB esc ops m) (List.range ops.size) with
    | some i =>
      rw [hp] at hv
      simp only [] at hv ⊢
      cases ho : ops[i]? with
      | none => rw [ho] at hv; exact hv
      | some o =>
        rw [ho] at hv
        simp only [] at hv ⊢
        have ih := fun X obl => vcRedM_red hok fuel _ _ X obl (h.set (hlt ho))
        refine vcG_mono (fun X hX => ?_) (fun X hX => ih _ _ hX) hv
        revert hX
        cases ev P esc o X with
        | ok r => exact ih _ _
        | split b x y => cases b <;> exact ih _ _
        | ex p f => exact fun ⟨e, h1, h2⟩ => ⟨e, h1, ih _ _ h2⟩
        | rd l f => exact fun ⟨ob, h1, r, h2, h3⟩ => ⟨ob, h1, r, h2, ih _ _ h3⟩
        | no => exact fun h => h
        | box _ => exact fun h => h
    | none =>
      rw [hp] at hv
      simp only [] at hv ⊢
      rw [h.readyL hok]
      cases hr : filtL (rdyB ops m) (List.range ops.size) with
      | nil => rw [hr] at hv; exact hv
      | cons j r =>
        rw [hr] at hv
        simp only [] at hv ⊢
        rw [allL_iff] at hv ⊢
        intro i hi
        have hvi := hv i hi
        cases ho : ops[i]? with
        | none => rw [ho] at hvi; exact hvi
        | some o =>
          rw [ho] at hvi
          simp only [] at hvi ⊢
          have ih := fun X obl => vcRedM_red hok fuel _ _ X obl (h.set (hlt ho))
          exact vcG_mono (fun X hX => vcOp_mono (fun X' h' => ⟨h'.1, ih _ _ h'.2⟩) (fun _ _ h => h) hX) (fun X hX => ih _ _ hX) hvi

theorem DC.start (ops : Array Oper) : DC ops (Array.replicate ops.size false) := fun k o ho hk => by
  rw [Array.getD_eq_getD_getElem?] at hk
  have := (Array.getElem?_eq_some_iff.1 ho).1
  simp [this] at hk

theorem RpM.start : RpM ops (Array.replicate ops.size false) 0 := by
  refine ⟨by simp, fun i hi => by simp [hi], fun i hi => by simp⟩
end
end Go.Lf
