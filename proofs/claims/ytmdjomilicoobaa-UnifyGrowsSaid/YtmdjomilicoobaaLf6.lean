/- A small logic over the kit's calls. Part 6: what is built: structs, arrays, slices out of their parts. -/
import Derived.Test.YtmdjomilicoobaaLf5
namespace Go.Lf
open Go

theorem heap_alloc_lt {w : World} {o : Go.Obj} {b : Nat} (h : b < w.heap.size) : (w.alloc o).heap[b]? = w.heap[b]? := by
  show (w.heap.push o)[b]? = _
  simp [Array.getElem?_push, Nat.ne_of_lt h]

theorem heap_alloc_new {w : World} {o : Go.Obj} : (w.alloc o).heap[w.heap.size]? = some o := by
  show (w.heap.push o)[w.heap.size]? = _
  simp

theorem cell_of_heap {w w' : World} {b : Nat} (h : w'.heap[b]? = w.heap[b]?) (i : Nat) : w'.cell? ⟨b, i, none⟩ = w.cell? ⟨b, i, none⟩ := by
  unfold World.cell?
  simp only [h]

theorem frozen_of_heap {w w' : World} {b : Nat} (h : w'.heap[b]? = w.heap[b]?) (i : Nat) : w'.frozen? ⟨b, i, none⟩ = w.frozen? ⟨b, i, none⟩ := by
  unfold World.frozen?
  simp only [h]

/-- A new block, of no kind that is known, or an array. -/
theorem inv_alloc {g : G} {w : World} {σ : Store} {π : Toks} (h : Inv g w σ π) (o : Go.Obj) (k : Kind)
    (hk : k = .none ∨ ∃ c T fr m, o = .cells c T fr ∧ k = .arr m c.size ∧ m ≤ c.size ∧ ∀ i, m ≤ i → i < c.size → fr.1 ≤ i → ¬ i < fr.2) {w' : World} (hw' : w'.heap = (w.alloc o).heap) (henv : w'.os = w.os ∧ w'.output = w.output) :
    Inv { g with kind := upd g.kind w.heap.size k } w' σ π ∧ Ext w.heap.size g w { g with kind := upd g.kind w.heap.size k } w' := by
  have hold : ∀ b, b < w.heap.size → w'.heap[b]? = w.heap[b]? := fun b hb => by rw [hw']; exact heap_alloc_lt hb
  have hnew : w'.heap[w.heap.size]? = some o := by rw [hw']; exact heap_alloc_new
  have hsz : w'.heap.size = w.heap.size + 1 := by rw [hw']; simp
  have hkind : ∀ b, b ≠ w.heap.size → upd g.kind w.heap.size k b = g.kind b := fun b hb => by
    have : Nat.beq b w.heap.size = false := by rw [← Bool.not_eq_true, Nat.beq_eq]; exact hb
    simp [upd, this]
  have hkn : upd g.kind w.heap.size k w.heap.size = k := by simp [upd]
  have hlt : ∀ b, g.kind b ≠ .none → b < w.heap.size := h.size
  have hext : Ext w.heap.size g w { g with kind := upd g.kind w.heap.size k } w' := by
    refine ⟨by omega, fun b hb hbk => ⟨hold b hb, ?_⟩, fun b m n hb => ⟨m, Nat.le_refl _, ?_, fun i _ => ?_⟩, fun b hb => ?_, fun _ _ h => h, fun _ _ h => h, henv, fun b m n hb c T fr hc => ⟨c, (hold b (hlt b (by rw [hb]; simp))).trans hc, rfl⟩⟩
    · show upd g.kind w.heap.size k b = _
      rw [hkind b (by omega), hbk]
    · show upd g.kind w.heap.size k b = _
      have := hlt b (by rw [hb]; simp)
      rw [hkind b (by omega), hb]
    · exact cell_of_heap (hold b (hlt b (by rw [hb]; simp))) i
    · show upd g.kind w.heap.size k b = _
      have := hlt b (by rw [hb]; simp)
      rw [hkind b (by omega), hb]
  refine ⟨{ size := fun b hb => ?_, fresh := h.fresh, objs := fun l ob hl => ?_, inj := h.inj, arrs := fun b m n hb => ?_, toks := fun t s ht => ?_, tinj := h.tinj }, hext⟩
  · have hb' : upd g.kind w.heap.size k b ≠ .none := hb
    by_cases e : b = w.heap.size
    · omega
    · rw [hkind b e] at hb'
      have := hlt b hb'
      omega
  · obtain ⟨b, h1, h2, h3⟩ := h.objs l ob hl
    have := hlt b (by rw [h2]; simp)
    exact ⟨b, h1, hext.obj b h2, h3.ext hext (hold b this)⟩
  · have hb' : upd g.kind w.heap.size k b = .arr m n := hb
    by_cases e : b = w.heap.size
    · subst e
      rw [hkn] at hb'
      rcases hk with hk | ⟨c, T, fr, m', h1, h2, h3, h4⟩
      · rw [hk] at hb'; cases hb'
      · rw [h2] at hb'; cases hb'
        refine ⟨h3, c, T, fr, by rw [hnew, h1], rfl, fun i hi1 hi2 => ?_⟩
        unfold World.frozen?
        simp only [hnew, h1]
        have := h4 i hi1 hi2
        simp
        intro h5
        omega
    · rw [hkind b e] at hb'
      obtain ⟨h1, c, T, fr, h2, h3, h4⟩ := h.arrs b m n hb'
      have hbl := hlt b (by rw [hb']; simp)
      exact ⟨h1, c, T, fr, (hold b hbl).trans h2, h3, fun i hi1 hi2 => (frozen_of_heap (hold b hbl) i).trans (h4 i hi1 hi2)⟩
  · rcases h.toks t s ht with h1 | ⟨b, p, m, n, h1, h2, h3⟩
    · exact .inl h1
    · obtain ⟨m', _, h5, _⟩ := hext.arr b m n h2
      have hbl := hlt b (by rw [h2]; simp)
      have : upd g.kind w.heap.size k b = .arr m n := by rw [hkind b (by omega), h2]
      exact .inr ⟨b, p, m, n, h1, this, h3⟩

theorem setAt_get (cs new : List Cell) (off i : Nat) (h : off + new.length ≤ cs.length) :
    (setAt cs off new)[i]? = if off ≤ i ∧ i < off + new.length then new[i - off]? else cs[i]? := by
  unfold setAt
  rw [List.append_assoc, List.getElem?_append, List.getElem?_append, List.getElem?_take, List.getElem?_drop]
  have : (cs.take off).length = off := by simp; omega
  rw [this]
  by_cases h1 : i < off
  · simp [h1]; omega
  · by_cases h2 : i - off < new.length
    · simp [h1, h2]; omega
    · have h3 : ¬ (off ≤ i ∧ i < off + new.length) := by omega
      simp only [h1, h2, h3, if_false]
      congr 1
      omega

theorem setAt_length (cs new : List Cell) (off : Nat) (h : off + new.length ≤ cs.length) : (setAt cs off new).length = cs.length := by
  unfold setAt; simp; omega

theorem foldl_put (off : Nat) : ∀ (l : List Value) (k : Nat) (arr : Array Value) (i : Nat), off + k + l.length ≤ arr.size →
    ((l.zipIdx k).foldl (fun cs (cj : Value × Nat) => cs.setIfInBounds (off + cj.2) cj.1) arr).size = arr.size ∧
    ((l.zipIdx k).foldl (fun cs (cj : Value × Nat) => cs.setIfInBounds (off + cj.2) cj.1) arr)[i]? = if off + k ≤ i ∧ i < off + k + l.length then l[i - (off + k)]? else arr[i]?
  | [], k, arr, i, h => by simp; intro h1 h2; omega
  | v :: l, k, arr, i, h => by
    have ih := foldl_put off l (k + 1) (arr.setIfInBounds (off + k) v) i (by simp at h ⊢; omega)
    simp only [List.zipIdx_cons, List.foldl_cons]
    refine ⟨by rw [ih.1]; simp, ?_⟩
    rw [ih.2]
    by_cases h1 : off + (k + 1) ≤ i ∧ i < off + (k + 1) + l.length
    · rw [if_pos h1, if_pos (by simp; omega)]
      have : i - (off + k) = (i - (off + (k + 1))) + 1 := by omega
      rw [this]; rfl
    · rw [if_neg h1]
      by_cases h2 : i = off + k
      · subst h2
        simp at h
        rw [if_pos (by simp)]
        simp [Array.getElem?_setIfInBounds]
        omega
      · rw [Array.getElem?_setIfInBounds_ne (by omega), if_neg (by simp; omega)]

section
variable {P : Program} {B : Nat} {g : G} {lb : Nat → Option Nat} {a : Act} {w : World} {X : St} {o : Oper} {esc : List Nat}

theorem repCs_setAt {cs new : List Cell} {arr vs : Array Value} {off : Nat} (hr : RepCs g w cs arr) (hn : RepCs g w new vs) (h : off + new.length ≤ cs.length) :
    RepCs g w (setAt cs off new) (vs.zipIdx.foldl (fun cs (c, j) => cs.setIfInBounds (off + j) c) arr) := by
  have h1 : vs.zipIdx.foldl (fun cs (cj : Value × Nat) => cs.setIfInBounds (off + cj.2) cj.1) arr = (vs.toList.zipIdx 0).foldl (fun cs (cj : Value × Nat) => cs.setIfInBounds (off + cj.2) cj.1) arr := by
    rw [← Array.foldl_toList]; simp
  have h2 : (fun (cs : Array Value) (x : Value × Nat) => match x with | (c, j) => cs.setIfInBounds (off + j) c) = fun cs (cj : Value × Nat) => cs.setIfInBounds (off + cj.2) cj.1 := by
    funext cs x; rfl
  rw [h2, h1]
  have hle : off + 0 + vs.toList.length ≤ arr.size := by
    have := hr.1; have := hn.1; simp; omega
  have hf := fun i => foldl_put off vs.toList 0 arr i hle
  refine ⟨by rw [setAt_length _ _ _ h, (hf 0).1]; exact hr.1, fun i c v hc hv => ?_⟩
  rw [setAt_get _ _ _ _ h] at hc
  rw [(hf i).2] at hv
  have hnl := hn.1
  by_cases h3 : off ≤ i ∧ i < off + new.length
  · rw [if_pos h3] at hc
    rw [if_pos (by simp; omega)] at hv
    exact hn.2 (i - off) c v hc (by simpa using hv)
  · rw [if_neg h3] at hc
    rw [if_neg (by simp; omega)] at hv
    exact hr.2 i c v hc hv

/-- The parts' values. -/
def PartsRep (g : G) (w : World) : List (Nat × List Cell) → List (Nat × Value) → Prop
  | [], [] => True
  | (i, cs) :: r, (j, v) :: s => i = j ∧ RepCs g w cs v.cells ∧ PartsRep g w r s
  | _, _ => False

theorem partsOf_rep (hc : Conc B g lb a w X) : ∀ {parts : List (Nat × Operand)} {ps : List (Nat × List Cell)}, partsOf X parts = some ps → PartsRep g w ps (parts.map fun p => (p.1, a.eval p.2))
  | [], ps, h => by cases h; trivial
  | (i, x) :: rest, ps, h => by
    simp only [partsOf] at h
    split at h
    · rename_i cs r h1 h2
      cases h
      exact ⟨rfl, (hc.eval x).cells? h1, partsOf_rep hc h2⟩
    · cases h

theorem fill_rep {place : Nat → Option (Nat × Nat)} : ∀ {ps : List (Nat × List Cell)} {vs : List (Nat × Value)} {cs out : List Cell} {arr : Array Value}, fillA place cs ps = some out → RepCs g w cs arr → PartsRep g w ps vs →
    ∃ arr', Instr.fill place arr vs = some arr' ∧ RepCs g w out arr'
  | [], [], cs, out, arr, h, hr, _ => by cases h; exact ⟨arr, rfl, hr⟩
  | (i, new) :: ps, (j, v) :: vs, cs, out, arr, h, hr, hp => by
    obtain ⟨rfl, h1, h2⟩ := hp
    simp only [fillA] at h
    split at h
    · cases h
    · rename_i off size hpl
      split at h
      · rename_i hle
        obtain ⟨arr', h3, h4⟩ := fill_rep h (repCs_setAt hr h1 hle.2) h2
        refine ⟨arr', ?_, h4⟩
        have e1 := h1.1
        have e2 := hr.1
        simp only [Instr.fill, hpl]
        rw [if_neg (by simp; omega)]
        exact h3
      · cases h
  | [], _ :: _, _, _, _, _, _, hp => hp.elim
  | _ :: _, [], _, _, _, _, _, hp => hp.elim

theorem places_run : ∀ {fs : List Field} {ps : List (Nat × Nat)}, placesOf P fs = some ps → (fs.mapM fun f => (do pure (f.offset, ← sizeOf f.type) : Sem (Nat × Nat))).run P w = .ok ps w
  | [], ps, h => by cases h; rfl
  | f :: r, ps, h => by
    simp only [placesOf] at h
    split at h
    · rename_i s ps' h1 h2
      cases h
      have ih := places_run h2
      rw [List.mapM_cons]
      simp only [Sem.run_bind, run_size h1, Result.andThen_ok, Sem.run_pure, ih]
    · cases h

theorem ok_build (hc : Conc B g lb a w X) {t : TypeId} {parts : Array (Nat × Operand)} (ho : o.op = .build t parts) : ERok P g lb a w X o (ev P esc o X) := by
  have hrun : (execOp a.eval o).run P w = ((Instr.build t (parts.map fun (i, x) => (i, a.eval x))).run P w).andThen fun v w' => .ok (.value v) w' := by
    unfold execOp
    simp only [ho]
    exact run_v rfl
  have hpt : (parts.map fun (i, x) => (i, a.eval x)).toList = parts.toList.map fun p => (p.1, a.eval p.2) := by simp
  unfold ev
  simp only [ho]
  unfold evBuild
  split
  · rename_i z ps hz hps
    obtain ⟨z0, hz1, hz2⟩ := zeroC_run (P := P) (g := g) (w := w) hz
    have hpr := partsOf_rep hc hps
    split
    · rename_i fields hu
      split
      · rename_i places hpl
        split
        · rename_i cells hfill
          obtain ⟨arr, h1, h2⟩ := fill_rep hfill hz2 hpr
          refine Out.same hc (v := .agg arr) ?_ ⟨arr, rfl, h2⟩ (fun k off h => by cases h)
          rw [hrun]
          have hm : (fields.mapM fun f => (do pure (f.offset, ← sizeOf f.type) : Sem (Nat × Nat))).run P w = .ok places.toArray w := by
            rw [Array.mapM_eq_mapM_toList, Sem.run_map, places_run hpl]; rfl
          have h3 : Instr.fill (fun i => places.toArray[i]?) z0.cells (parts.map fun (i, x) => (i, a.eval x)).toList = some arr := by
            rw [hpt]; simpa using h1
          unfold Instr.build
          simp only [Sem.run_bind, hz1, run_underlying hu, Result.andThen_ok, hm, h3, Sem.run_pure]
        · trivial
      · trivial
    · rename_i n e hu
      split
      · rename_i s hs
        split
        · rename_i cells hfill
          obtain ⟨arr, h1, h2⟩ := fill_rep hfill hz2 hpr
          refine Out.same hc (v := .agg arr) ?_ ⟨arr, rfl, h2⟩ (fun k off h => by cases h)
          rw [hrun]
          have h3 : Instr.fill (fun i => some (i * s, s)) z0.cells (parts.map fun (i, x) => (i, a.eval x)).toList = some arr := by
            rw [hpt]; exact h1
          unfold Instr.build
          simp only [Sem.run_bind, hz1, run_underlying hu, Result.andThen_ok, run_size hs, h3, Sem.run_pure]
        · trivial
      · trivial
    · trivial
  · trivial
end
end Go.Lf
