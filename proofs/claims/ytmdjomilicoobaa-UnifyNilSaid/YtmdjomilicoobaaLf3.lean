/- A small logic over the kit's calls. Part 3: what the operations that change nothing yield is what the machine's yield. -/
import Derived.Test.YtmdjomilicoobaaLf2
import Derived.Deep.MidRow
import Derived.ChangeKeysEq
namespace Go.Lf
open Go

def RepT (g : G) (lb : Nat → Option Nat) (w : World) : TV → Value → Prop
  | .val v o, x => RepC g w (v, o) x
  | .agg cs, x => ∃ vs, x = .agg vs ∧ RepCs g w cs vs
  | .lref k off, x => ∃ b, lb k = some b ∧ x = .pointer (some ⟨b, off, none⟩)

/-- The call's state, in memory; B: how many blocks there were when the call began. -/
structure Conc (B : Nat) (g : G) (lb : Nat → Option Nat) (a : Act) (w : World) (X : St) : Prop where
  inv : Inv g w X.σ X.π
  big : B ≤ w.heap.size
  loc : ∀ k cs, X.L k = some cs → ∃ b vs T, lb k = some b ∧ B ≤ b ∧ b < w.heap.size ∧ g.kind b = .none ∧ w.heap[b]? = some (.cells vs T (0, 0)) ∧ RepCs g w cs vs
  inj : ∀ k k' b, X.L k ≠ none → X.L k' ≠ none → lb k = some b → lb k' = some b → k = k'
  tmps : ∀ t, RepT g lb w (X.T t) (a.tmps.getD t undef)
  wf : ∀ t k off, X.T t = .lref k off → X.L k ≠ none

theorem RepT.ext {B : Nat} {g g' : G} {lb : Nat → Option Nat} {w w' : World} (h : Ext B g w g' w') {r : TV} {x : Value} (hr : RepT g lb w r x) : RepT g' lb w' r x := by
  cases r with
  | val v o => exact RepC.ext h hr
  | agg cs => obtain ⟨vs, h1, h2⟩ := hr; exact ⟨vs, h1, h2.ext h⟩
  | lref k off => exact hr

/-- What the call's own variables hold stays, when something is made, or a call is made. -/
theorem Conc.ext {B : Nat} {g g' : G} {lb : Nat → Option Nat} {a : Act} {w w' : World} {X : St} (hc : Conc B g lb a w X) (h : Ext w.heap.size g w g' w') {σ' : Store} {π' : Toks}
    (hi : Inv g' w' σ' π') : Conc B g' lb a w' { X with σ := σ', π := π' } where
  inv := hi
  big := Nat.le_trans hc.big h.size
  loc k cs hk := by
    obtain ⟨b, vs, T, h1, h2, h3, h4, h5, h6⟩ := hc.loc k cs hk
    obtain ⟨h7, h8⟩ := h.same b h3 h4
    exact ⟨b, vs, T, h1, h2, Nat.lt_of_lt_of_le h3 h.size, h8, h7.trans h5, h6.ext h⟩
  inj := hc.inj
  tmps t := (hc.tmps t).ext h
  wf := hc.wf

theorem Conc.put {B : Nat} {g : G} {lb : Nat → Option Nat} {a : Act} {w : World} {X : St} (hc : Conc B g lb a w X) {d : Option Tmp} {r : TV} {v : Value} (hr : RepT g lb w r v)
    (hl : ∀ k off, r = .lref k off → X.L k ≠ none) (hd : ∀ t, d = some t → t < a.tmps.size) : Conc B g lb (a.put d v) w (X.put d r) := by
  cases d with
  | none => exact hc
  | some d =>
    refine { inv := hc.inv, big := hc.big, loc := hc.loc, inj := hc.inj, tmps := fun t => ?_, wf := fun t k off h => ?_ }
    · show RepT g lb w (upd X.T d r t) ((a.tmps.setIfInBounds d v).getD t undef)
      unfold upd
      by_cases e : t = d
      · subst e
        simp [hd t rfl, hr]
      · have : Nat.beq t d = false := by rw [← Bool.not_eq_true, Nat.beq_eq]; exact e
        rw [this]
        simp only [cond_false]
        have h2 : (a.tmps.setIfInBounds d v).getD t undef = a.tmps.getD t undef := by
          simp [Array.getD_eq_getD_getElem?, Array.getElem?_setIfInBounds_ne (Ne.symm e)]
        rw [h2]
        exact hc.tmps t
    · by_cases e : t = d
      · subst e
        exact hl k off (by simpa [St.put, upd] using h)
      · have : Nat.beq t d = false := by rw [← Bool.not_eq_true, Nat.beq_eq]; exact e
        exact hc.wf t k off (by simpa [St.put, upd, this] using h)

theorem repC_cellOf (g : G) (w : World) (v : Value) : RepC g w (cellOf v) v := by
  unfold cellOf
  split
  · exact ⟨.nil, rfl⟩
  · exact ⟨.raw _, trivial⟩

theorem repCs_cellOf (g : G) (w : World) (vs : Array Value) (h : vs.toList.all one = true) : RepCs g w (vs.toList.map cellOf) vs := by
  refine ⟨by simp, fun i c v hc hv => ?_⟩
  simp only [List.getElem?_map, Array.getElem?_toList, hv, Option.map_some, Option.some.injEq] at hc
  subst hc
  exact ⟨repC_cellOf g w v, List.all_eq_true.1 h v (by rw [Array.mem_toList_iff]; exact Array.mem_of_getElem? hv)⟩

theorem repT_tvOf (g : G) (lb : Nat → Option Nat) (w : World) (v : Value) : RepT g lb w (tvOf v) v := by
  unfold tvOf
  split
  · split
    · rename_i cs h; exact ⟨cs, rfl, repCs_cellOf g w cs h⟩
    · exact ⟨.raw _, trivial⟩
  · exact ⟨.nil, rfl⟩
  · exact ⟨.raw _, trivial⟩

theorem Conc.eval {B : Nat} {g : G} {lb : Nat → Option Nat} {a : Act} {w : World} {X : St} (hc : Conc B g lb a w X) (x : Operand) : RepT g lb w (X.eval x) (a.eval x) := by
  cases x with
  | tmp t => exact hc.tmps t
  | const v => exact repT_tvOf g lb w v
  | global n => exact ⟨.any _, trivial⟩
  | func f => exact ⟨.fn _ _ _ _ _ rfl rfl (fun i c v h => by simp at h) (fun i c v h => by simp at h), trivial⟩

theorem Conc.evalL {B : Nat} {g : G} {lb : Nat → Option Nat} {a : Act} {w : World} {X : St} (hc : Conc B g lb a w X) {x : Operand} {k off : Nat} (h : X.eval x = .lref k off) : X.L k ≠ none := by
  cases x with
  | tmp t => exact hc.wf t k off h
  | const v =>
    exfalso
    simp only [St.eval, tvOf] at h
    split at h <;> first | cases h | (split at h <;> cases h)
  | global n => cases h
  | func f => cases h

theorem RepT.v? {g : G} {lb : Nat → Option Nat} {w : World} {r : TV} {x : Value} (hr : RepT g lb w r x) {v : V} (h : r.v? = some v) : Rep g w v x := by
  cases r with
  | val u o => cases h; exact hr.1
  | agg cs =>
    cases h
    obtain ⟨vs, rfl, h1, h2⟩ := hr
    refine .agg _ _ (by simpa using h1) (fun i c v hc hv => ?_)
    simp only [List.getElem?_map, Option.map_eq_some_iff] at hc
    obtain ⟨c', h3, rfl⟩ := hc
    exact (h2 i c' v h3 hv).1.1
  | lref k off => cases h

theorem Rep.single {g : G} {w : World} {v : V} {x : Value} (h : Rep g w v x) (hs : v.single = true) : one x = true := by
  cases h <;> first | rfl | (simp [V.single] at hs; done) | exact hs

theorem RepT.cells? {g : G} {lb : Nat → Option Nat} {w : World} {r : TV} {x : Value} (hr : RepT g lb w r x) {cs : List Cell} (h : r.cells? = some cs) : RepCs g w cs x.cells := by
  cases r with
  | val u o =>
    have key : ∀ u : V, u.single = true → RepC g w (u, o) x → RepCs g w [(u, o)] x.cells := fun u hu hr => by
      have h1 := Rep.single hr.1 hu
      have h2 : x.cells = #[x] := by cases x <;> first | rfl | (simp [one, Value.oneCell'] at h1)
      rw [h2]
      refine ⟨rfl, fun i c v hc hv => ?_⟩
      cases i with
      | zero => simp at hc hv; subst hc; subst hv; exact ⟨hr, h1⟩
      | succ i => simp at hc
    cases u with
    | agg vs =>
      simp only [TV.cells?] at h
      split at h
      · rename_i hall
        cases h
        obtain ⟨hr1, hr2⟩ := hr
        cases hr1 with
        | agg _ us hl hh =>
          refine ⟨by simpa [Value.cells] using hl, fun i c v hc hv => ?_⟩
          simp only [List.getElem?_map, Option.map_eq_some_iff] at hc
          obtain ⟨c', h3, rfl⟩ := hc
          have h4 := hh i c' v h3 hv
          exact ⟨⟨h4, trivial⟩, Rep.single h4 (List.all_eq_true.1 hall c' (List.mem_of_getElem? h3))⟩
      · cases h
    | _ =>
      simp only [TV.cells?] at h
      split at h
      · rename_i hs; cases h; exact key _ hs hr
      · cases h
  | agg ds => cases h; obtain ⟨vs, rfl, h1⟩ := hr; exact h1
  | lref k off => cases h

theorem Conc.evals {B : Nat} {g : G} {lb : Nat → Option Nat} {a : Act} {w : World} {X : St} (hc : Conc B g lb a w X) : ∀ (xs : List Operand) {vs : List V}, X.evals xs = some vs → Reps g w vs (xs.map a.eval).toArray
  | [], vs, h => by cases h; exact ⟨rfl, fun i c v hc => by simp at hc⟩
  | x :: xs, vs, h => by
    simp only [St.evals] at h
    split at h
    · rename_i v us hv hus
      cases h
      obtain ⟨h1, h2⟩ := hc.evals xs hus
      have h3 := (hc.eval x).v? hv
      refine ⟨by simpa using h1, fun i c u hi hu => ?_⟩
      cases i with
      | zero => simp at hi hu; subst hi; subst hu; exact h3
      | succ i => exact h2 i c u (by simpa using hi) (by simpa using hu)
    · cases h

theorem peek_run {α : Type} (P : Program) : ∀ (s : Sem α) {v : α} (w : World), peek P s = some v → s.run P w = .ok v w
  | .pure a, v, w, h => by cases h; rfl
  | .program k, v, w, h => peek_run P (k P) w h
  | .load .., _, _, h => by cases h
  | .store .., _, _, h => by cases h
  | .new .., _, _, h => by cases h
  | .shape .., _, _, h => by cases h
  | .freeze .., _, _, h => by cases h
  | .frozen .., _, _, h => by cases h
  | .getObj .., _, _, h => by cases h
  | .setObj .., _, _, h => by cases h
  | .choose .., _, _, h => by cases h
  | .sys .., _, _, h => by cases h
  | .mark .., _, _, h => by cases h
  | .halt .., _, _, h => by cases h

section
variable {P : Program}

theorem run_isAgg {t : TypeId} {b : Bool} (h : agg? P t = some b) (w : World) : (isAgg t).run P w = .ok b w := by
  unfold agg? at h
  unfold isAgg
  split at h <;> first | (cases h; rename_i hu; rw [Sem.run_bind, run_underlying hu w]; rfl) | (cases h; rename_i d _ _ hu; rw [Sem.run_bind, run_underlying hu w]; cases d <;> first | rfl | simp_all) | cases h

theorem run_size {t : TypeId} {n : Nat} (h : sz? P t = some n) (w : World) : (sizeOf t).run P w = .ok n w := by
  unfold sz? at h
  cases hi : P.info? t with
  | none => simp [hi] at h
  | some i => simp [hi] at h; subst h; simp [sizeOf, typeInfo, hi]

/-- A load from a block of the call's own, or a shared variable. -/
theorem run_readC {t : TypeId} {cs : List Cell} {off : Nat} {r : TV} (h : readC P t cs off = some r) {g : G} (lb : Nat → Option Nat) {w : World} {b : Nat} {vs : Array Value} {T : TypeId} {fr : Nat × Nat}
    (hb : w.heap[b]? = some (.cells vs T fr)) (hr : RepCs g w cs vs) : ∃ v, (loadVar t ⟨b, off, none⟩).run P w = .ok v w ∧ RepT g lb w r v ∧ (∀ k o, r ≠ .lref k o) := by
  have hcell : ∀ j, w.cell? ⟨b, j, none⟩ = vs[j]? := fun j => by simp [World.cell?, hb]
  unfold readC at h
  split at h
  · rename_i hag
    split at h
    · rename_i n hn
      split at h
      · rename_i hle
        cases h
        have hl : (loadCells ⟨b, off, none⟩ n).run P w = .ok (vs.toList.drop off |>.take n).toArray w := by
          have hlen : ((vs.toList.drop off).take n).length = n := by
            have := hr.1
            simp; omega
          have := run_loadCells_list (P := P) w ⟨b, off, none⟩ ((vs.toList.drop off).take n) (fun j v hv => by
            rw [Addr.add_mid, hcell]
            simp [List.getElem?_take, List.getElem?_drop] at hv
            exact hv.2)
          rwa [hlen] at this
        refine ⟨.agg ((vs.toList.drop off).take n).toArray, ?_, ⟨_, rfl, ?_, fun i c v hc hv => ?_⟩, fun k o hh => by cases hh⟩
        · simp [loadVar, Sem.run_bind, run_isAgg hag w, run_size hn w, hl]
        · have := hr.1; simp; omega
        · simp [List.getElem?_take, List.getElem?_drop] at hc hv
          exact hr.2 (off + i) c v hc.2 (by simpa using hv.2)
      · cases h
    · cases h
  · rename_i hag
    split at h
    · rename_i c hc
      cases h
      have hlt : off < vs.size := by
        have := hr.1
        have := (List.getElem?_eq_some_iff.1 hc).1
        omega
      have hv : vs[off]? = some vs[off] := by simp [hlt]
      refine ⟨vs[off], ?_, (hr.2 off c _ hc hv).1, fun k o hh => by cases hh⟩
      simp [loadVar, Sem.run_bind, run_isAgg hag w, run_load, hcell, hv]
    · cases h
  · cases h

/-- A load from an array. -/
theorem run_readV {t : TypeId} {v r : V} {off : Nat} (h : readV P t v.cells off = some r) {g : G} {w : World} {b o m n : Nat} {f : Nat → Value} (_ : g.kind b = .arr m n)
    (hc : ∀ (j : Nat) (c : V), v.cells[j]? = some c → w.cell? ⟨b, o + j, none⟩ = some (f j) ∧ one (f j) = true) (hh : ∀ (j : Nat) (c : V), v.cells[j]? = some c → Rep g w c (f j)) :
    ∃ x, (loadVar t ⟨b, o + off, none⟩).run P w = .ok x w ∧ Rep g w r x := by
  unfold readV at h
  split at h
  · rename_i hag
    split at h
    · rename_i n hn
      split at h
      · rename_i hle
        cases h
        have hl := run_loadCells (P := P) w ⟨b, o + off, none⟩ n (fun j => f (off + j)) (fun j hj => by
          rw [Addr.add_mid, Nat.add_assoc]
          exact (hc (off + j) (v.cells[off + j]'(by omega)) (by simp)).1)
        refine ⟨_, by simp [loadVar, Sem.run_bind, run_isAgg hag w, run_size hn w, hl]; rfl, .agg _ _ (by simp; omega) (fun i c x hi hx => ?_)⟩
        simp [List.getElem?_take, List.getElem?_drop] at hi
        simp [hi.1] at hx
        subst hx
        exact hh (off + i) c hi.2
      · cases h
    · cases h
  · rename_i hag
    refine ⟨f off, ?_, hh off r h⟩
    simp [loadVar, Sem.run_bind, run_isAgg hag w, run_load, (hc off r h).1]
  · cases h
end
end Go.Lf
