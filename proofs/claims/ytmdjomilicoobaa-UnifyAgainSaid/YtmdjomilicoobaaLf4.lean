/- A small logic over the kit's calls. Part 4: of each operation that changes nothing: what it yields stands for what the machine's yields. -/
import Derived.Test.YtmdjomilicoobaaLf3
namespace Go.Lf
open Go

/-- The operation yields what this stands for; what stood stands. -/
def Out (P : Program) (g : G) (lb : Nat → Option Nat) (a : Act) (w : World) (X : St) (o : Oper) (r : TV) : Prop :=
  ∃ v w' g', (execOp a.eval o).run P w = .ok (.value v) w' ∧ Ext w.heap.size g w g' w' ∧ Inv g' w' X.σ X.π ∧ RepT g' lb w' r v ∧ ∀ k off, r = .lref k off → X.L k ≠ none

def ERok (P : Program) (g : G) (lb : Nat → Option Nat) (a : Act) (w : World) (X : St) (o : Oper) : ER → Prop
  | .no => True
  | .ok r => Out P g lb a w X o r
  | .box cs => ∃ d vs T, o.dst = some d ∧ X.L d = none ∧ (execOp a.eval o).run P w = .ok (.value (.pointer (some ⟨w.heap.size, 0, none⟩))) (w.alloc (.cells vs T (0, 0))) ∧ RepCs g w cs vs
  | .split b x y => Out P g lb a w X o (if b then x else y)
  | .ex p f => ∀ e, p e → Out P g lb a w X o (f e)
  | .rd l f => ∀ obj r, X.σ l = some obj → f obj = some r → Out P g lb a w X o r

section
variable {P : Program} {B : Nat} {g : G} {lb : Nat → Option Nat} {a : Act} {w : World} {X : St} {o : Oper} {esc : List Nat}

theorem Out.same (hc : Conc B g lb a w X) {v : Value} {r : TV} (h : (execOp a.eval o).run P w = .ok (.value v) w) (hr : RepT g lb w r v) (hl : ∀ k off, r = .lref k off → X.L k ≠ none) : Out P g lb a w X o r :=
  ⟨v, w, g, h, Ext.refl _ _ _, hc.inv, hr, hl⟩

theorem ERok.raw (hc : Conc B g lb a w X) {s : Sem Value} (h : (execOp a.eval o).run P w = (s.run P w).andThen fun v w' => .ok (.value v) w') : ERok P g lb a w X o (ER.raw (peek P s)) := by
  cases hp : peek P s with
  | none => trivial
  | some v =>
    refine Out.same hc (v := v) (by rw [h, peek_run P s w hp]; rfl) (repT_tvOf g lb w v) (fun k off hh => ?_)
    exfalso
    unfold tvOf at hh
    split at hh <;> first | cases hh | (split at hh <;> cases hh)

theorem tvOf_lref {v : Value} {k off : Nat} (h : tvOf v = .lref k off) : False := by
  unfold tvOf at h
  split at h <;> first | cases h | (split at h <;> cases h)

theorem run_v {s : Sem Value} {Q : Result Next} (h : (s.run P w).andThen (fun v w' => .ok (.value v) w') = Q) :
    Sem.run P (do pure (Next.value (← s))) w = Q := by
  rw [← h, Sem.run_bind]; rfl

theorem ok_move (hc : Conc B g lb a w X) {x : Operand} (ho : o.op = .move x ∨ o.op = .assign x) : Out P g lb a w X o (X.eval x) := by
  refine Out.same hc (v := a.eval x) ?_ (hc.eval x) (fun k off h => hc.evalL h)
  rcases ho with ho | ho <;> (unfold execOp; simp only [ho]; rfl)

theorem rep_bool {o' : Own} {x : Value} {t : Bool} (h : RepT g lb w (.val (.raw (.bool t)) o') x) : x = .bool t := by
  obtain ⟨h, _⟩ := h
  cases h
  rfl

theorem rep_raw {o' : Own} {x u : Value} (h : RepT g lb w (.val (.raw u) o') x) : x = u := by
  obtain ⟨h, _⟩ := h
  cases h
  rfl

theorem ok_pick (hc : Conc B g lb a w X) {c x y : Operand} (ho : o.op = .pick c x y) {t : Bool} {o' : Own} (he : X.eval c = .val (.raw (.bool t)) o') : Out P g lb a w X o (if t then X.eval x else X.eval y) := by
  have h1 := hc.eval c
  rw [he] at h1
  have h2 := rep_bool h1
  cases t with
  | true =>
    refine Out.same hc (v := a.eval x) ?_ (hc.eval x) (fun k off h => hc.evalL h)
    unfold execOp; simp only [ho, h2]; rfl
  | false =>
    refine Out.same hc (v := a.eval y) ?_ (hc.eval y) (fun k off h => hc.evalL h)
    unfold execOp; simp only [ho, h2]; rfl

theorem zeroC_run {t : TypeId} {cs : List Cell} (h : zeroC P t = some cs) : ∃ z, (zeroValue t).run P w = .ok z w ∧ RepCs g w cs z.cells := by
  unfold zeroC at h
  split at h
  · rename_i i hi
    split at h
    · rename_i z hz
      split at h
      · rename_i hall
        cases h
        exact ⟨z, by simp [zeroValue, typeInfo, hi, hz], repCs_cellOf g w z.cells hall⟩
      · cases h
    · cases h
  · cases h

theorem ok_alloc (hc : Conc B g lb a w X) {t : TypeId} (ho : o.op = .alloc t) {d : Tmp} (hd : o.dst = some d) {cs : List Cell} (hz : zeroC P t = some cs) (hL : X.L d = none) : ERok P g lb a w X o (.box cs) := by
  obtain ⟨z, h1, h2⟩ := zeroC_run (P := P) (g := g) (w := w) hz
  refine ⟨d, z.cells, t, hd, hL, ?_, h2⟩
  unfold execOp
  simp only [ho]
  refine run_v ?_
  simp [Instr.alloc, Sem.run_bind, h1, newVar, newRow]

theorem ok_box (hc : Conc B g lb a w X) {t : TypeId} {x : Operand} (ho : o.op = .box t x) {d : Tmp} (hd : o.dst = some d) {cs : List Cell} (hz : (X.eval x).cells? = some cs) (hL : X.L d = none) : ERok P g lb a w X o (.box cs) := by
  refine ⟨d, (a.eval x).cells, t, hd, hL, ?_, (hc.eval x).cells? hz⟩
  unfold execOp
  simp only [ho]
  refine run_v ?_
  simp [Instr.box, newVar, newRow]

theorem rep_ptr {x : TV} {v : Value} (h : RepT g lb w x v) (hp : isPtr x = true) : ∃ ad, v = .pointer (some ad) := by
  unfold isPtr at hp
  split at hp
  · obtain ⟨b, _, rfl⟩ := h; exact ⟨_, rfl⟩
  · obtain ⟨h, _⟩ := h; cases h; exact ⟨_, rfl⟩
  · obtain ⟨h, _⟩ := h; cases h; exact ⟨_, rfl⟩
  · cases hp

theorem ok_load (hc : Conc B g lb a w X) {t : TypeId} {x : Operand} (ho : o.op = .load t x) : ERok P g lb a w X o (evLoad P X t (X.eval x)) := by
  have hx := hc.eval x
  have hrun : ∀ {b off : Nat}, a.eval x = .pointer (some ⟨b, off, none⟩) → (execOp a.eval o).run P w = ((loadVar t ⟨b, off, none⟩).run P w).andThen fun v w' => .ok (.value v) w' := fun {b off} e => by
    unfold execOp
    simp only [ho, e]
    refine run_v ?_
    simp [Instr.loadAt, Instr.sureAddr]
  unfold evLoad
  split
  · rename_i k off he
    rw [he] at hx
    obtain ⟨b, hb, hv⟩ := hx
    split
    · rename_i cs hcs
      cases hr : readC P t cs off with
      | none => trivial
      | some r =>
        obtain ⟨b', vs, T, h1, _, _, _, h5, h6⟩ := hc.loc k cs hcs
        rw [hb] at h1; cases h1
        obtain ⟨v, h7, h8, h9⟩ := run_readC hr lb h5 h6
        exact Out.same hc (v := v) (by rw [hrun hv, h7]; rfl) h8 (fun k o h => absurd h (h9 k o))
    · trivial
  · rename_i l off o' he
    rw [he] at hx
    obtain ⟨hx, _⟩ := hx
    generalize hv : a.eval x = v at hx
    cases hx with
    | ref _ _ b hl =>
      intro obj r hobj hr
      obtain ⟨b', h1, _, h3⟩ := hc.inv.objs l obj hobj
      rw [hl] at h1; cases h1
      cases obj with
      | map m => cases hr
      | var cs =>
        obtain ⟨vs, T, h5, h6⟩ := h3
        obtain ⟨v, h7, h8, h9⟩ := run_readC hr lb h5 h6
        exact Out.same hc (v := v) (by rw [hrun hv, h7]; rfl) h8 (fun k o h => absurd h (h9 k o))
  · rename_i v off o' he
    rw [he] at hx
    obtain ⟨hx, _⟩ := hx
    split
    · rename_i r hr
      generalize hv : a.eval x = u at hx
      cases hx with
      | eptr _ _ b off' m n f hk hm hcc hh =>
        obtain ⟨y, h7, h8⟩ := run_readV hr hk hcc hh
        exact Out.same hc (v := y) (by rw [hrun hv, h7]; rfl) ⟨h8, trivial⟩ (fun k o h => by cases h)
    · trivial
  · trivial

theorem ok_nilCheck (hc : Conc B g lb a w X) {x : Operand} (ho : o.op = .nilCheck x) : ERok P g lb a w X o (ev P esc o X) := by
  have hx := hc.eval x
  have key : ∀ ad, a.eval x = .pointer (some ad) → (execOp a.eval o).run P w = .ok (.value (a.eval x)) w := fun ad e => by
    unfold execOp; simp only [ho, e]; rfl
  unfold ev
  simp only [ho]
  split
  · rename_i k off he
    rw [he] at hx
    obtain ⟨b, hb, hv⟩ := hx
    exact Out.same hc (key _ hv) ⟨b, hb, hv⟩ (fun k' off' h => by cases h; exact hc.evalL he)
  · rename_i l off o' he
    rw [he] at hx
    obtain ⟨ad, hv⟩ := rep_ptr hx rfl
    exact Out.same hc (key _ hv) hx (fun k' off' h => by cases h)
  · rename_i v off o' he
    rw [he] at hx
    obtain ⟨ad, hv⟩ := rep_ptr hx rfl
    exact Out.same hc (key _ hv) hx (fun k' off' h => by cases h)
  · rename_i f c d o' he
    rw [he] at hx
    refine Out.same hc (v := a.eval x) ?_ hx (fun k' off' h => by cases h)
    obtain ⟨h1, _⟩ := hx
    generalize hv : a.eval x = u at h1
    cases h1
    unfold execOp; simp only [ho, hv]; rfl
  · trivial

theorem ok_bin (hc : Conc B g lb a w X) {op : BinOp} {t ty : TypeId} {x y : Operand} (ho : o.op = .binOp op t x y ty) : ERok P g lb a w X o (evBin P op t x y (X.eval x) (X.eval y)) := by
  have hx := hc.eval x
  have hy := hc.eval y
  unfold evBin
  split
  · rename_i u o1 u' o2 e1 e2
    rw [e1] at hx; rw [e2] at hy
    have h1 := rep_raw hx
    have h2 := rep_raw hy
    refine ERok.raw hc ?_
    unfold execOp
    simp only [ho, h1, h2]
    exact run_v rfl
  · rename_i x' o1 e1 _
    rw [e1] at hy
    have h2 := rep_raw hy
    split
    · rename_i e hu
      split
      · rename_i hp
        obtain ⟨ad, h1⟩ := rep_ptr hx hp
        have heq : (Op.equal t (.pointer (some ad)) (.pointer none)).run P w = .ok false w := by
          show (Op.equalIn (9999 + 1) t (.pointer (some ad)) (.pointer none)).run P w = .ok false w
          unfold Op.equalIn
          rw [Sem.run_bind, run_underlying hu w]
          rfl
        split
        · refine Out.same hc (v := .bool false) ?_ ⟨.raw _, trivial⟩ (fun k off h => by cases h)
          unfold execOp
          simp only [ho, h1, h2]
          refine run_v ?_
          simp [Go.binOp, eqGuard, heq]
        · refine Out.same hc (v := .bool true) ?_ ⟨.raw _, trivial⟩ (fun k off h => by cases h)
          unfold execOp
          simp only [ho, h1, h2]
          refine run_v ?_
          simp [Go.binOp, eqGuard, heq]
        · trivial
      · trivial
    · trivial
  · trivial

theorem ok_un (hc : Conc B g lb a w X) {op : UnOp} {t : TypeId} {x : Operand} (ho : o.op = .unOp op t x) : ERok P g lb a w X o (ev P esc o X) := by
  have hx := hc.eval x
  unfold ev
  simp only [ho]
  split
  · rename_i u o1 e1
    rw [e1] at hx
    have h1 := rep_raw hx
    refine ERok.raw hc ?_
    unfold execOp
    simp only [ho, h1]
    exact run_v rfl
  · trivial

theorem ok_convert (hc : Conc B g lb a w X) {s d : TypeId} {x : Operand} (ho : o.op = .convert s d x) : ERok P g lb a w X o (ev P esc o X) := by
  have hx := hc.eval x
  unfold ev
  simp only [ho]
  split
  · rename_i k n o1 e1
    rw [e1] at hx
    have h1 := rep_raw hx
    refine ERok.raw hc ?_
    unfold execOp
    simp only [ho, h1]
    exact run_v rfl
  · trivial

theorem ok_iface (hc : Conc B g lb a w X) {t : TypeId} {x : Operand} (ho : o.op = .makeInterface t x) : ERok P g lb a w X o (ev P esc o X) := by
  have hx := hc.eval x
  unfold ev
  simp only [ho]
  split
  · trivial
  · rename_i d v hno hd hv
    refine Out.same hc (v := .iface t (a.eval x)) ?_ ⟨.iface _ _ _ (hx.v? hv), trivial⟩ (fun k off h => by cases h)
    unfold execOp
    simp only [ho]
    refine run_v ?_
    unfold Instr.makeInterface
    rw [Sem.run_bind, run_underlying hd w]
    cases d <;> first | rfl | exact absurd rfl (hno _)
  · trivial

theorem ok_func (hc : Conc B g lb a w X) {f : Fn} {xs ys : Array Operand} (ho : o.op = .makeFunc f xs ys) : ERok P g lb a w X o (ev P esc o X) := by
  unfold ev
  simp only [ho]
  split
  · rename_i us vs h1 h2
    have h3 := hc.evals _ h1
    have h4 := hc.evals _ h2
    refine Out.same hc (v := .func f (xs.map a.eval) (ys.map a.eval)) ?_ ⟨.fn _ _ _ _ _ ?_ ?_ (fun i c v hi hv => h3.2 i c v hi ?_) (fun i c v hi hv => h4.2 i c v hi ?_), trivial⟩ (fun k off h => by cases h)
    · unfold execOp; simp only [ho]; rfl
    · simpa using h3.1
    · simpa using h4.1
    · simpa using hv
    · simpa using hv
  · trivial

theorem RepT.agg? {r : TV} {x : Value} (hr : RepT g lb w r x) {cs : List Cell} (h : r.agg? = some cs) : ∃ vs, x = .agg vs ∧ RepCs g w cs vs := by
  cases r with
  | agg ds => obtain ⟨vs, rfl, h1⟩ := hr; cases h; exact ⟨vs, rfl, h1⟩
  | lref k off => cases h
  | val v o' =>
    have h2 : (TV.val v o').cells? = some cs := by
      cases v <;> first | exact h | cases h
    have h1 := hr.cells? h2
    cases v <;> first | (cases h; done) | skip
    obtain ⟨hr, _⟩ := hr
    cases hr
    exact ⟨_, rfl, h1⟩

theorem run_part {t : TypeId} {cs : List Cell} {off : Nat} {r : TV} (h : readC P t cs off = some r) {vs : Array Value} (hr : RepCs g w cs vs) :
    ∃ v, (part t vs off).run P w = .ok v w ∧ RepT g lb w r v ∧ (∀ k o, r ≠ .lref k o) := by
  unfold readC at h
  split at h
  · rename_i hag
    split at h
    · rename_i n hn
      split at h
      · rename_i hle
        cases h
        refine ⟨.agg (vs.extract off (off + n)), ?_, ⟨_, rfl, ?_, fun i c v hc hv => ?_⟩, fun k o hh => by cases hh⟩
        · simp [part, run_isAgg hag w, run_size hn w]
        · have := hr.1; simp; omega
        · simp [List.getElem?_take, List.getElem?_drop] at hc
          rw [Array.getElem?_extract] at hv
          split at hv
          · exact hr.2 (off + i) c v hc.2 hv
          · cases hv
      · cases h
    · cases h
  · rename_i hag
    split at h
    · rename_i c hc
      cases h
      have hlt : off < vs.size := by
        have := hr.1
        have := (List.getElem?_eq_some_iff.1 hc).1
        omega
      have hv : vs[off]? = some vs[off] := by simp [hlt]
      exact ⟨vs[off], by simp [part, run_isAgg hag w, hv], (hr.2 off c _ hc hv).1, fun k o hh => by cases hh⟩
    · cases h
  · cases h

theorem ok_field (hc : Conc B g lb a w X) {t : TypeId} {x : Operand} {n : Nat} (ho : o.op = .field t x n) : ERok P g lb a w X o (ev P esc o X) := by
  have hx := hc.eval x
  unfold ev
  simp only [ho]
  split
  · rename_i cs hcs
    obtain ⟨vs, hv, hrep⟩ := hx.agg? hcs
    unfold evField
    split
    · rename_i fields hu
      split
      · rename_i fd hfd
        cases hr : readC P fd.type cs fd.offset with
        | none => trivial
        | some r =>
          obtain ⟨v, h1, h2, h3⟩ := run_part (lb := lb) hr hrep
          refine Out.same hc (v := v) ?_ h2 (fun k off h => absurd h (h3 k off))
          unfold execOp
          simp only [ho, hv]
          refine run_v ?_
          simp [Instr.field, run_underlying hu, hfd, asAgg, h1]
      · trivial
    · trivial
  · trivial

theorem ok_fieldAddr (hc : Conc B g lb a w X) {t : TypeId} {x : Operand} {n : Nat} (ho : o.op = .fieldAddr t x n) : ERok P g lb a w X o (ev P esc o X) := by
  have hx := hc.eval x
  unfold ev
  simp only [ho]
  split
  · rename_i m hm
    unfold foff? at hm
    split at hm
    · rename_i fields hu
      split at hm
      · rename_i fd hfd
        split at hm
        · rename_i s hs
          cases hm
          have key : ∀ b off, a.eval x = .pointer (some ⟨b, off, none⟩) → (execOp a.eval o).run P w = .ok (.value (.pointer (some ⟨b, off + fd.offset, none⟩))) w := fun b off e => by
            unfold execOp
            simp only [ho, e]
            refine run_v ?_
            simp [Instr.fieldAt, run_underlying hu, hfd, Instr.sureAddr, fieldPlace, run_size hs, Addr.add_mid]
          unfold moveBy
          split
          · rename_i k off he
            rw [he] at hx
            obtain ⟨b, hb, hv⟩ := hx
            exact Out.same hc (key _ _ hv) ⟨b, hb, rfl⟩ (fun k' off' h => by cases h; exact hc.evalL he)
          · rename_i l off o' he
            rw [he] at hx
            obtain ⟨hx, _⟩ := hx
            generalize hv : a.eval x = u at hx
            cases hx with
            | ref _ _ b hl => exact Out.same hc (key _ _ hv) ⟨.ref _ _ _ hl, trivial⟩ (fun k' off' h => by cases h)
          · rename_i v off o' he
            rw [he] at hx
            obtain ⟨hx, _⟩ := hx
            generalize hv : a.eval x = u at hx
            cases hx with
            | eptr _ _ b off' m n f hk hm hcc hh =>
              refine Out.same hc (key _ _ hv) ⟨?_, trivial⟩ (fun k' off' h => by cases h)
              rw [Nat.add_assoc]
              exact .eptr _ _ _ _ _ _ f hk hm hcc hh
          · trivial
        · cases hm
      · cases hm
    · cases hm
  · trivial

theorem lit_rep {x : TV} {v : Value} {i : Int} (h : lit? x = some i) (hr : RepT g lb w x v) : ∃ k, v = .int k i := by
  unfold lit? at h
  split at h
  · cases h; exact ⟨_, rep_raw hr⟩
  · cases h

theorem ok_indexAddr (hc : Conc B g lb a w X) {t : TypeId} {x y : Operand} (ho : o.op = .indexAddr t x y) : ERok P g lb a w X o (ev P esc o X) := by
  have hx := hc.eval x
  have hy := hc.eval y
  unfold ev
  simp only [ho]
  unfold evIndexAddr
  split
  · trivial
  · rename_i i hi
    obtain ⟨k, hk⟩ := lit_rep hi hy
    split
    · rename_i el hu
      split
      · rename_i es o' he
        rw [he] at hx
        obtain ⟨hx, _⟩ := hx
        intro e ⟨h0, hget, hz⟩
        generalize hv : a.eval x = u at hx
        cases hx with
        | nil => simp at hget
        | empty => simp at hget
        | sl _ b off cap s m n f hkd hm hcap hs hcc hh =>
          have hlt : i.toNat < es.length := (List.getElem?_eq_some_iff.1 hget).1
          have hi2 : i < (es.length : Int) := by omega
          rw [hs _ _ hget] at hz
          refine Out.same hc (v := .pointer (some ⟨b, off + i.toNat * s, none⟩)) ?_ ⟨?_, trivial⟩ (fun k' off' h => by cases h)
          · unfold execOp
            simp only [ho, hv, hk]
            refine run_v ?_
            simp [Instr.indexAt, run_underlying hu, asIntOf, h0, hi2, run_size hz, Addr.add_mid]
          · have := Rep.eptr (g := g) (w := w) e 0 b (off + i.toNat * s) m n (fun j => f i.toNat j) hkd (by
              rw [hs _ _ hget]
              have : (i.toNat + 1) * s ≤ es.length * s := Nat.mul_le_mul_right s hlt
              rw [Nat.add_mul, Nat.one_mul] at this
              omega) (fun j c hj => hcc _ _ j c hget hj) (fun j c hj => hh _ _ j c hget hj)
            simpa using this
      · trivial
    · rename_i len el hu
      split
      · rename_i s hs
        split
        · rename_i hb
          have key : ∀ b off, a.eval x = .pointer (some ⟨b, off, none⟩) → (execOp a.eval o).run P w = .ok (.value (.pointer (some ⟨b, off + i.toNat * s, none⟩))) w := fun b off e => by
            unfold execOp
            simp only [ho, e, hk]
            refine run_v ?_
            simp [Instr.indexAt, run_underlying hu, asIntOf, hb, run_size hs, Addr.add_mid, Instr.sureAddr]
          unfold moveBy
          split
          · rename_i k off he
            rw [he] at hx
            obtain ⟨b, hb, hv⟩ := hx
            exact Out.same hc (key _ _ hv) ⟨b, hb, rfl⟩ (fun k' off' h => by cases h; exact hc.evalL he)
          · rename_i l off o' he
            rw [he] at hx
            obtain ⟨hx, _⟩ := hx
            generalize hv : a.eval x = u at hx
            cases hx with
            | ref _ _ b hl => exact Out.same hc (key _ _ hv) ⟨.ref _ _ _ hl, trivial⟩ (fun k' off' h => by cases h)
          · rename_i v off o' he
            rw [he] at hx
            obtain ⟨hx, _⟩ := hx
            generalize hv : a.eval x = u at hx
            cases hx with
            | eptr _ _ b off' m n f hk hm hcc hh =>
              refine Out.same hc (key _ _ hv) ⟨?_, trivial⟩ (fun k' off' h => by cases h)
              rw [Nat.add_assoc]
              exact .eptr _ _ _ _ _ _ f hk hm hcc hh
          · trivial
        · trivial
      · trivial
    · trivial

theorem ok_index (hc : Conc B g lb a w X) {t : TypeId} {x y : Operand} (ho : o.op = .index t x y) : ERok P g lb a w X o (ev P esc o X) := by
  have hx := hc.eval x
  have hy := hc.eval y
  unfold ev
  simp only [ho]
  unfold evIndex
  split
  · trivial
  · rename_i i hi
    obtain ⟨k, hk⟩ := lit_rep hi hy
    split
    · rename_i s o' hu he
      rw [he] at hx
      have hv := rep_raw hx
      intro e ⟨h0, b, hb, he⟩
      subst he
      refine Out.same hc (v := .int .u8 b.toNat) ?_ ⟨.raw _, trivial⟩ (fun k' off' h => by cases h)
      unfold execOp
      simp only [ho, hv, hk]
      refine run_v ?_
      simp [Instr.index, run_underlying hu, asIntOf, h0, hb]
    · trivial

theorem run_bound {v : Value} {k : IntKind} {i : Int} (hv : v = .int k i) {y : Nat} {code : BoundsCode} (h0 : 0 ≤ i) (h1 : i ≤ y) : (Instr.sliceBound v y code).run P w = .ok i.toNat w := by
  subst hv
  simp [Instr.sliceBound, asIntOf, h0, h1]

/-- A beginning, an end, or a middle, of a slice. -/
theorem rep_cut {es : List V} {b off cap s m n : Nat} {f : Nat → Nat → Value} (hk : g.kind b = .arr m n) (hm : off + es.length * s ≤ m)
    (hs : ∀ (i : Nat) (e : V), es[i]? = some e → e.cells.length = s)
    (hc : ∀ (i : Nat) (e : V) (j : Nat) (c : V), es[i]? = some e → e.cells[j]? = some c → w.cell? ⟨b, off + i * s + j, none⟩ = some (f i j) ∧ one (f i j) = true)
    (h : ∀ (i : Nat) (e : V) (j : Nat) (c : V), es[i]? = some e → e.cells[j]? = some c → Rep g w c (f i j)) {l k : Nat} (hl : l ≤ k) (hk2 : k ≤ es.length) (hcap : k - l ≤ cap) :
    Rep g w (.sl ((es.take k).drop l)) (.slice (some ⟨b, off + l * s, none⟩) (k - l) cap) := by
  have hget : ∀ i e, ((es.take k).drop l)[i]? = some e → es[l + i]? = some e := fun i e hi => by
    simp [List.getElem?_take, List.getElem?_drop] at hi
    exact hi.2
  have hlen : ((es.take k).drop l).length = k - l := by simp; omega
  have := Rep.sl (g := g) (w := w) ((es.take k).drop l) b (off + l * s) cap s m n (fun i j => f (l + i) j) hk (by
      rw [hlen, Nat.sub_mul]
      have : l * s ≤ k * s := Nat.mul_le_mul_right s hl
      have : k * s ≤ es.length * s := Nat.mul_le_mul_right s hk2
      omega) (by omega) (fun i e hi => hs _ _ (hget i e hi)) (fun i e j c hi hj => by
      have := hc _ _ j c (hget i e hi) hj
      rw [Nat.add_mul] at this
      rw [show off + l * s + i * s + j = off + (l * s + i * s) + j by omega]
      exact this) (fun i e j c hi hj => h _ _ j c (hget i e hi) hj)
  rwa [hlen] at this

/-- The machine's slicing, its bounds known. -/
theorem run_bounds {lo hi mx : Option Value} {len cap : Nat} {l h m : Int} (sl : Bool)
    (hlo : lo = none ∧ l = 0 ∨ ∃ k, lo = some (.int k l)) (hhi : hi = none ∧ h = len ∨ ∃ k, hi = some (.int k h)) (hmx : mx = none ∧ m = cap ∨ (∃ k, mx = some (.int k m)) ∧ ∃ k, hi = some (.int k h))
    (h0 : 0 ≤ l) (h1 : l ≤ h) (h2 : h ≤ m) (h3 : m ≤ cap) :
    (Instr.sliceBounds sl len cap lo hi mx).run P w = .ok (l.toNat, h.toNat, m.toNat) w := by
  obtain ⟨l, rfl⟩ := Int.eq_ofNat_of_zero_le h0
  obtain ⟨h, rfl⟩ := Int.eq_ofNat_of_zero_le (show 0 ≤ h by omega)
  obtain ⟨m, rfl⟩ := Int.eq_ofNat_of_zero_le (show 0 ≤ m by omega)
  have g1 : l ≤ h := by omega
  have g2 : h ≤ m := by omega
  have g3 : m ≤ cap := by omega
  have g4 : h ≤ cap := by omega
  rcases hlo with ⟨rfl, h5⟩ | ⟨k1, rfl⟩ <;> rcases hmx with ⟨rfl, h7⟩ | ⟨⟨k3, rfl⟩, k4, h7⟩ <;> rcases hhi with ⟨rfl, h6⟩ | ⟨k2, rfl⟩ <;> first
    | (cases h7; done)
    | skip
  all_goals try (norm_cast at h5; subst h5)
  all_goals try (norm_cast at h7; subst h7)
  all_goals try (norm_cast at h6; subst h6)
  all_goals simp [Instr.sliceBounds, Instr.sliceBound, asIntOf, g1, g2, g3, g4]

theorem lo_rep (hc : Conc B g lb a w X) {lo : Option Operand} {l : Int} (h : (match lo.map X.eval with | none => some 0 | some v => lit? v) = some l) :
    lo.map a.eval = none ∧ l = 0 ∨ ∃ k, lo.map a.eval = some (.int k l) := by
  cases lo with
  | none => exact .inl ⟨rfl, by simpa using h.symm⟩
  | some x =>
    obtain ⟨k, hk⟩ := lit_rep h (hc.eval x)
    exact .inr ⟨k, by simp [hk]⟩

theorem hi_rep (hc : Conc B g lb a w X) {hi : Option Operand} {n h : Int} (hh : (match hi.map X.eval with | none => some n | some v => lit? v) = some h) :
    hi.map a.eval = none ∧ h = n ∨ ∃ k, hi.map a.eval = some (.int k h) := by
  cases hi with
  | none => exact .inl ⟨rfl, by simpa using hh.symm⟩
  | some x =>
    obtain ⟨k, hk⟩ := lit_rep hh (hc.eval x)
    exact .inr ⟨k, by simp [hk]⟩

theorem mx_rep (hc : Conc B g lb a w X) {mx : Option Operand} {m : Int} {tv : TV} (hm : mx.map X.eval = some tv) (h : lit? tv = some m) : ∃ k, mx.map a.eval = some (.int k m) := by
  cases mx with
  | none => cases hm
  | some x =>
    cases hm
    obtain ⟨k, hk⟩ := lit_rep h (hc.eval x)
    exact ⟨k, by simp [hk]⟩

theorem mx_none {mx : Option Operand} (hm : mx.map X.eval = none) : mx.map a.eval = none := by
  cases mx with
  | none => rfl
  | some x => cases hm

/-- The slice that comes of it. -/
theorem rep_sliced {es : List V} {x : Value} (hx : Rep g w (.sl es) x) {t el : TypeId} (hu : P.underlying t = some (.slice el)) {lo hi mx : Option Value} {l h : Int} (h0 : 0 ≤ l) (h1 : l ≤ h) (h2 : h ≤ es.length)
    (hsz : ∃ s, sz? P el = some s ∧ (l = 0 ∨ ∀ x ∈ es, x.cells.length = s)) (hlo : lo = none ∧ l = 0 ∨ ∃ k, lo = some (.int k l)) (hhi : hi = none ∧ h = es.length ∨ ∃ k, hi = some (.int k h))
    (hmx : mx = none ∨ (∃ k, mx = some (.int k h)) ∧ ∃ k, hi = some (.int k h)) :
    ∃ v, (Instr.slice t x lo hi mx).run P w = .ok v w ∧ Rep g w (.sl ((es.take h.toNat).drop l.toNat)) v ∧ (mx ≠ none → v = .slice none 0 0 ∨ ∃ b n, v = .slice (some b) n n) := by
  obtain ⟨s, hs, hall⟩ := hsz
  cases hx with
  | nil =>
    have e1 : l = 0 := by simp at h2; omega
    have e2 : h = 0 := by simp at h2; omega
    subst e1; subst e2
    refine ⟨.slice none 0 0, ?_, by simpa using Rep.nil, fun _ => .inl rfl⟩
    have hb := run_bounds (P := P) (w := w) (lo := lo) (hi := hi) (mx := mx) (len := 0) (cap := 0) (l := 0) (h := 0) (m := 0) true hlo (by simpa using hhi) (by
      rcases hmx with hmx | hmx
      · exact .inl ⟨hmx, rfl⟩
      · exact .inr hmx) (by omega) (by omega) (by omega) (by omega)
    simp [Instr.slice, run_underlying hu, hb, run_size hs]
  | empty ad cap =>
    have e1 : l = 0 := by simp at h2; omega
    have e2 : h = 0 := by simp at h2; omega
    subst e1; subst e2
    have key : ∃ c : Int, 0 ≤ c ∧ c ≤ cap ∧ (mx = none ∧ c = cap ∨ (∃ k, mx = some (.int k c)) ∧ ∃ k, hi = some (.int k 0)) ∧ (mx ≠ none → c = 0) := by
      rcases hmx with hmx | hmx
      · exact ⟨cap, by omega, by omega, .inl ⟨hmx, rfl⟩, fun hh => absurd hmx hh⟩
      · exact ⟨0, by omega, by omega, .inr hmx, fun _ => rfl⟩
    obtain ⟨c, hc1, hc2, hc3, hc4⟩ := key
    have hb := run_bounds (P := P) (w := w) (lo := lo) (hi := hi) (mx := mx) (len := 0) (cap := cap) (l := 0) (h := 0) (m := c) true hlo (by simpa using hhi) hc3 (by omega) (by omega) hc1 hc2
    have hrun : (Instr.slice t (.slice (some ad) 0 cap) lo hi mx).run P w = .ok (.slice (some ad) 0 c.toNat) w := by
      simp only [Instr.slice, Sem.run_bind, run_underlying hu, hb, run_size hs, Result.andThen_ok, Sem.run_pure]
      split <;> simp [Addr.add]
    refine ⟨_, hrun, by simpa using Rep.empty _ _, fun hne => .inr ⟨_, 0, by rw [hc4 hne]; rfl⟩⟩
  | sl _ b off cap s' m n f hkd hm hcap hss hcc hh =>
    have key : ∃ c : Int, h ≤ c ∧ c ≤ cap ∧ (mx = none ∧ c = cap ∨ (∃ k, mx = some (.int k c)) ∧ ∃ k, hi = some (.int k h)) ∧ (mx ≠ none → c = h) := by
      rcases hmx with hmx | hmx
      · exact ⟨cap, by omega, by omega, .inl ⟨hmx, rfl⟩, fun hh => absurd hmx hh⟩
      · exact ⟨h, by omega, by omega, .inr hmx, fun _ => rfl⟩
    obtain ⟨c, hc1, hc2, hc3, hc4⟩ := key
    have hb := run_bounds (P := P) (w := w) (lo := lo) (hi := hi) (mx := mx) (len := es.length) (cap := cap) (l := l) (h := h) (m := c) true hlo hhi hc3 h0 h1 hc1 hc2
    have hrun : (Instr.slice t (.slice (some ⟨b, off, none⟩) es.length cap) lo hi mx).run P w = .ok (.slice (some (if c.toNat = l.toNat then ⟨b, off, none⟩ else ⟨b, off + l.toNat * s, none⟩)) (h.toNat - l.toNat) (c.toNat - l.toNat)) w := by
      simp only [Instr.slice, Sem.run_bind, run_underlying hu, hb, run_size hs, Result.andThen_ok, Sem.run_pure]
      split <;> simp [Addr.add_mid]
    refine ⟨_, hrun, ?_, fun hne => .inr ⟨_, h.toNat - l.toNat, by rw [hc4 hne]⟩⟩
    by_cases e : c.toNat = l.toNat
    · have e2 : h.toNat = l.toNat := by omega
      have e3 : (es.take h.toNat).drop l.toNat = [] := by rw [e2]; simp
      rw [if_pos e, e3, e2, e]
      have := Rep.sl (g := g) (w := w) [] b off 0 0 m n f hkd (by simp; have : off ≤ m := by omega
                                                                  exact this) (by simp) (fun i e h => by simp at h) (fun i e j c h => by simp at h) (fun i e j c h => by simp at h)
      simpa using this
    · rw [if_neg e]
      have hs2 : l.toNat * s = l.toNat * s' := by
        rcases hall with rfl | hall
        · simp
        · cases es with
          | nil => simp at h2; have : l = 0 := by omega
                   subst this; simp
          | cons y ys => rw [← hall y (by simp), hss 0 y rfl]
      rw [hs2]
      exact rep_cut hkd hm hss hcc hh (by omega) (by omega) (by omega)

theorem ok_slice (hc : Conc B g lb a w X) {t : TypeId} {x : Operand} {lo hi mx : Option Operand} (ho : o.op = .slice t x lo hi mx) : ERok P g lb a w X o (ev P esc o X) := by
  have hx := hc.eval x
  unfold ev
  simp only [ho]
  unfold evSlice
  have hrun : ∀ {d : TypeDesc}, P.underlying t = some d → (∀ n e, d ≠ .array n e) → (execOp a.eval o).run P w = ((Instr.slice t (a.eval x) (lo.map a.eval) (hi.map a.eval) (mx.map a.eval)).run P w).andThen fun v w' => .ok (.value v) w' := fun {d} hu hn => by
    unfold execOp
    simp only [ho]
    refine run_v ?_
    unfold Instr.sliceAt
    rw [Sem.run_bind, run_underlying hu w]
    cases d <;> first | rfl | exact absurd rfl (hn _ _)
  dsimp only
  split
  · rename_i el es o' hu he
    rw [he] at hx
    obtain ⟨hx, _⟩ := hx
    split
    · rename_i l h hl hh hm
      intro e ⟨h0, h1, h2, hsz, he⟩
      subst he
      obtain ⟨v, h3, h4, _⟩ := rep_sliced hx hu (lo := lo.map a.eval) (hi := hi.map a.eval) (mx := mx.map a.eval) h0 h1 h2 hsz (lo_rep hc hl) (hi_rep hc hh) (.inl (mx_none hm))
      exact Out.same hc (v := v) (by rw [hrun hu (fun _ _ h => by cases h), h3]; rfl) ⟨h4, trivial⟩ (fun k off h => by cases h)
    · rename_i l h m hl hh hm
      split
      · rename_i m' v' hm' hh'
        intro e ⟨h0, h1, h2, h3, hsz, he⟩
        subst he
        subst h2
        have hmx := mx_rep hc hm hm'
        have hhi : ∃ k, hi.map a.eval = some (.int k h) := by
          rcases hi_rep hc hh with ⟨h5, h6⟩ | h5
          · cases hi with
            | none => cases hh'
            | some y => cases h5
          · exact h5
        obtain ⟨v, h3, h4, h5⟩ := rep_sliced hx hu (lo := lo.map a.eval) (hi := hi.map a.eval) (mx := mx.map a.eval) h0 h1 h3 hsz (lo_rep hc hl) (hi_rep hc hh) (.inr ⟨hmx, hhi⟩)
        obtain ⟨k, hk⟩ := hmx
        exact Out.same hc (v := v) (by rw [hrun hu (fun _ _ h => by cases h), h3]; rfl) ⟨h4, h5 (by rw [hk]; simp)⟩ (fun k off h => by cases h)
      · trivial
    · trivial
  · rename_i s o' hu he
    rw [he] at hx
    have hv := rep_raw hx
    split
    · rename_i l h hl hh hm
      intro e ⟨h0, h1, h2, he⟩
      subst he
      have hb := run_bounds (P := P) (w := w) (lo := lo.map a.eval) (hi := hi.map a.eval) (mx := none) (len := s.size) (cap := s.size) (l := l) (h := h) (m := s.size) false (lo_rep hc hl) (hi_rep hc hh) (.inl ⟨rfl, rfl⟩) h0 h1 h2 (by omega)
      refine Out.same hc (v := .string (s.extract l.toNat h.toNat)) ?_ ⟨.raw _, trivial⟩ (fun k off h => by cases h)
      rw [hrun hu (fun _ _ h => by cases h), hv, mx_none hm]
      simp [Instr.slice, run_underlying hu, hb]
    · trivial
  · trivial
end
end Go.Lf
