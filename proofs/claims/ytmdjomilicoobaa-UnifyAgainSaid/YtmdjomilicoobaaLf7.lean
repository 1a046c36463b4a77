/- A small logic over the kit's calls. Part 7: slices out of their parts; all operations that change nothing, together. -/
import Derived.Test.YtmdjomilicoobaaLf6
namespace Go.Lf
open Go

theorem repeatL_length {α : Type} (n : Nat) (l : List α) : (repeatL n l).length = n * l.length := by
  induction n with
  | zero => simp [repeatL]
  | succ n ih => simp [repeatL, ih, Nat.add_mul]; omega

theorem repeatL_get {α : Type} (l : List α) (hl : 0 < l.length) : ∀ (n i : Nat), i < n * l.length → (repeatL n l)[i]? = l[i % l.length]?
  | 0, i, h => by simp at h
  | n + 1, i, h => by
    simp only [repeatL]
    rw [List.getElem?_append]
    by_cases h1 : i < l.length
    · rw [if_pos h1, Nat.mod_eq_of_lt h1]
    · rw [if_neg h1, repeatL_get l hl n (i - l.length) (by rw [Nat.add_mul] at h; omega)]
      congr 1
      exact (Nat.mod_eq_sub_mod (by omega)).symm

theorem chunks_length (ag : Bool) (s : Nat) : ∀ (n : Nat) (cs : List Cell), (chunks ag s n cs).length = n
  | 0, _ => rfl
  | n + 1, cs => by simp [chunks, chunks_length ag s n]

theorem chunks_get (ag : Bool) (s : Nat) : ∀ (n : Nat) (cs : List Cell) (i : Nat), i < n → (chunks ag s n cs)[i]? = some (if ag then .agg (((cs.drop (i * s)).take s).map (·.1)) else (((cs.drop (i * s)).head?).map (·.1)).getD .any)
  | 0, _, _, h => by omega
  | n + 1, cs, i, h => by
    cases i with
    | zero => simp [chunks]
    | succ i =>
      simp only [chunks, List.getElem?_cons_succ]
      rw [chunks_get ag s n _ i (by omega), List.drop_drop, Nat.add_mul, Nat.one_mul, Nat.add_comm s (i * s)]

section
variable {P : Program} {B : Nat} {g : G} {lb : Nat → Option Nat} {a : Act} {w : World} {X : St} {o : Oper} {esc : List Nat}

theorem Rep.not_agg {v : V} {x : Value} (h : Rep g w v x) (h1 : one x = true) : v.cells = [v] := by
  cases h <;> first | rfl | cases h1

/-- The elements of a new array. -/
theorem rep_chunks {b n s : Nat} {ag : Bool} {cells : List Cell} {arr : Array Value} {T : TypeId} {fr : Nat × Nat} (hs : 0 < s) (hag : ag = true ∨ s = 1) (hlen : cells.length = n * s) (hr : RepCs g w cells arr)
    (hb : w.heap[b]? = some (.cells arr T fr)) (hk : g.kind b = .arr (n * s) (n * s)) : Rep g w (.sl (chunks ag s n cells)) (.slice (some ⟨b, 0, none⟩) n n) := by
  have hcell : ∀ j, w.cell? ⟨b, j, none⟩ = arr[j]? := fun j => by simp [World.cell?, hb]
  have hsz : arr.size = n * s := by rw [← hr.1, hlen]
  have hget : ∀ i < n, ∀ j < s, ∃ c v, cells[i * s + j]? = some c ∧ arr[i * s + j]? = some v ∧ Rep g w c.1 v ∧ one v = true := fun i hi j hj => by
    have h1 : (i + 1) * s ≤ n * s := Nat.mul_le_mul_right s hi
    rw [Nat.add_mul, Nat.one_mul] at h1
    have h2 : i * s + j < cells.length := by omega
    have h3 : i * s + j < arr.size := by omega
    have h4 : cells[i * s + j]? = some cells[i * s + j] := by simp [h2]
    have h5 : arr[i * s + j]? = some arr[i * s + j] := by simp [h3]
    have h6 := hr.2 _ _ _ h4 h5
    exact ⟨_, _, h4, h5, h6.1.1, h6.2⟩
  -- the cells of the elements
  have hel : ∀ (i : Nat) (e : V), (chunks ag s n cells)[i]? = some e → i < n ∧ e.cells.length = s ∧ ∀ (j : Nat) (c : V), e.cells[j]? = some c → j < s ∧ ∃ d, cells[i * s + j]? = some d ∧ d.1 = c := fun i e he => by
    have hi : i < n := by
      have := (List.getElem?_eq_some_iff.1 he).1
      rwa [chunks_length] at this
    rw [chunks_get _ _ _ _ _ hi] at he
    refine ⟨hi, ?_⟩
    have h1 : (i + 1) * s ≤ n * s := Nat.mul_le_mul_right s hi
    rw [Nat.add_mul, Nat.one_mul] at h1
    rcases Bool.eq_false_or_eq_true ag with rfl | rfl
    · simp only [if_true, Option.some.injEq] at he
      subst he
      refine ⟨by simp [V.cells]; omega, fun j c hj => ?_⟩
      simp only [V.cells, List.getElem?_map, Option.map_eq_some_iff, List.getElem?_take, List.getElem?_drop] at hj
      obtain ⟨d, hd, rfl⟩ := hj
      split at hd
      · exact ⟨by assumption, d, hd, rfl⟩
      · cases hd
    · have hs1 : s = 1 := by rcases hag with h | h; cases h; exact h
      subst hs1
      obtain ⟨c, v, h4, h5, h6, h7⟩ := hget i hi 0 (by omega)
      simp only [Nat.mul_one, Nat.add_zero] at h4 h5 he
      have h8 : (cells.drop i).head? = some c := by rw [List.head?_drop]; exact h4
      simp only [h8, Option.map_some, Option.getD_some, Bool.false_eq_true, if_false, Option.some.injEq] at he
      subst he
      rw [h6.not_agg h7]
      refine ⟨rfl, fun j d hj => ?_⟩
      cases j with
      | zero => simp at hj; subst hj; exact ⟨by omega, c, by simpa using h4, rfl⟩
      | succ j => simp at hj
  have := Rep.sl (g := g) (w := w) (chunks ag s n cells) b 0 n s (n * s) (n * s) (fun i j => (arr[i * s + j]?).getD undef) hk (by rw [chunks_length]; omega) (by rw [chunks_length]; omega)
    (fun i e he => (hel i e he).2.1) (fun i e j c he hj => by
      obtain ⟨hi, _, h2⟩ := hel i e he
      obtain ⟨hjs, _⟩ := h2 j c hj
      obtain ⟨c', v, h4, h5, h6, h7⟩ := hget i hi j hjs
      rw [hcell, Nat.zero_add, h5]; exact ⟨rfl, h7⟩) (fun i e j c he hj => by
      obtain ⟨hi, _, h2⟩ := hel i e he
      obtain ⟨hjs, d, hd1, hd2⟩ := h2 j c hj
      obtain ⟨c', v, h4, h5, h6, h7⟩ := hget i hi j hjs
      rw [h4] at hd1; cases hd1
      rw [h5, ← hd2]; exact h6)
  rwa [chunks_length] at this

theorem ok_buildSlice (hc : Conc B g lb a w X) {t : TypeId} {len : Nat} {parts : Array (Nat × Operand)} (ho : o.op = .buildSlice t len parts) : ERok P g lb a w X o (ev P esc o X) := by
  have hrun : (execOp a.eval o).run P w = ((Instr.buildSlice t len (parts.map fun (i, x) => (i, a.eval x))).run P w).andThen fun v w' => .ok (.value v) w' := by
    unfold execOp
    simp only [ho]
    exact run_v rfl
  have hpt : (parts.map fun (i, x) => (i, a.eval x)).toList = parts.toList.map fun p => (p.1, a.eval p.2) := by simp
  unfold ev
  simp only [ho]
  unfold evBuildSlice
  split
  · rename_i e hu
    split
    · rename_i s ag z ps hs hag hz hps
      split
      · rename_i hcond
        obtain ⟨hle, hzl, hs0, hag1⟩ := hcond
        split
        · rename_i cells hfill
          obtain ⟨z0, hz1, hz2⟩ := zeroC_run (P := P) (g := g) (w := w) hz
          have hpr := partsOf_rep hc hps
          have hz0 : z0.cells.size = s := by rw [← hz2.1, hzl]
          -- the array to begin with
          let zero : Array Value := if len * s = 0 then #[] else z0.cells
          let init : Array Value := (Array.range (len * s)).map fun i => zero[i % zero.size]!
          have hinit : RepCs g w (repeatL len z) init := by
            refine ⟨by simp [init, repeatL_length, hzl], fun i c v hc hv => ?_⟩
            have hi : i < len * s := by
              have := (List.getElem?_eq_some_iff.1 hc).1
              rwa [repeatL_length, hzl] at this
            rw [repeatL_get z (by omega) len i (by rw [hzl]; exact hi), hzl] at hc
            have hzero : zero = z0.cells := by simp only [zero]; rw [if_neg (by omega)]
            have hm : i % s < s := Nat.mod_lt _ hs0
            simp only [init, Array.getElem?_map, Array.getElem?_range, hi, if_true, Option.map_some, Option.some.injEq] at hv
            rw [hzero, hz0] at hv
            refine hz2.2 (i % s) c v hc ?_
            rw [← hv, getElem!_pos z0.cells (i % s) (by omega)]
            simp [hz0, hm]
          obtain ⟨arr, h1, h2⟩ := fill_rep hfill hinit hpr
          have hcl : cells.length = len * s := by
            have : ∀ {ps : List (Nat × List Cell)} {cs out : List Cell}, fillA (fun i => some (i * s, s)) cs ps = some out → out.length = cs.length := by
              intro ps
              induction ps with
              | nil => intro cs out h; cases h; rfl
              | cons p ps ih =>
                intro cs out h
                simp only [fillA] at h
                split at h
                · rename_i hh
                  rw [ih h, setAt_length _ _ _ hh.2]
                · cases h
            rw [this hfill, repeatL_length, hzl]
          have hasz : arr.size = len * s := by rw [← h2.1, hcl]
          have h3 : Instr.fill (fun i => some (i * s, s)) init (parts.map fun (i, x) => (i, a.eval x)).toList = some arr := by
            rw [hpt]; exact h1
          have hbuild : (Instr.buildSlice t len (parts.map fun (i, x) => (i, a.eval x))).run P w = .ok (.slice (some ⟨w.heap.size, 0, none⟩) len len) (w.alloc (.cells arr e)) := by
            unfold Instr.buildSlice
            simp only [Sem.run_bind, run_underlying hu, Result.andThen_ok, run_size hs]
            rw [if_neg (by omega)]
            by_cases h0 : len * s = 0
            · have hi0 : init = (Array.range (len * s)).map fun i => (#[] : Array Value)[i % (#[] : Array Value).size]! := by simp only [init, zero, if_pos h0]
              rw [if_pos h0]
              simp only [Sem.run_bind, Sem.run_pure, Result.andThen_ok]
              rw [← hi0, h3]
              simp [newRow]
            · have hi0 : init = (Array.range (len * s)).map fun i => z0.cells[i % z0.cells.size]! := by simp only [init, zero, if_neg h0]
              rw [if_neg h0]
              simp only [Sem.run_bind, hz1, Sem.run_pure, Result.andThen_ok]
              rw [← hi0, h3]
              simp [newRow]
          obtain ⟨h4, h5⟩ := inv_alloc hc.inv (.cells arr e (0, 0)) (.arr (len * s) (len * s)) (.inr ⟨arr, e, (0, 0), len * s, rfl, by rw [hasz], by omega, fun i _ _ _ => by simp⟩) (w' := w.alloc (.cells arr e)) rfl ⟨rfl, rfl⟩
          refine ⟨_, _, _, by rw [hrun, hbuild]; rfl, h5, h4, ⟨?_, .inr ⟨_, _, rfl⟩⟩, fun k off h => by cases h⟩
          refine rep_chunks hs0 hag1 hcl (h2.ext h5) heap_alloc_new ?_
          simp [upd]
        · trivial
      · trivial
    · trivial
  · trivial

/-- What an operation that changes nothing yields is what the machine's yields. -/
theorem ev_ok (hc : Conc B g lb a w X) : ERok P g lb a w X o (ev P esc o X) := by
  cases ho : o.op with
  | move x => unfold ev; simp only [ho]; exact ok_move hc (.inl ho)
  | assign x => unfold ev; simp only [ho]; exact ok_move hc (.inr ho)
  | pick c x y =>
    unfold ev; simp only [ho]
    split
    · rename_i t o' he; exact ok_pick hc ho he
    · trivial
  | alloc t =>
    unfold ev; simp only [ho]
    split
    · rename_i d cs hd hz
      split
      · trivial
      · split
        · rename_i hL; exact ok_alloc hc ho hd hz hL
        · trivial
    · trivial
  | box t x =>
    unfold ev; simp only [ho]
    split
    · rename_i d cs hd hz
      split
      · trivial
      · split
        · rename_i hL; exact ok_box hc ho hd hz hL
        · trivial
    · trivial
  | build t parts => exact ok_build hc ho
  | buildSlice t len parts => exact ok_buildSlice hc ho
  | load t x => unfold ev; simp only [ho]; exact ok_load hc ho
  | nilCheck x => exact ok_nilCheck hc ho
  | binOp op t x y ty => unfold ev; simp only [ho]; exact ok_bin hc ho
  | unOp op t x => exact ok_un hc ho
  | convert s d x => exact ok_convert hc ho
  | makeInterface t x => exact ok_iface hc ho
  | makeFunc f xs ys => exact ok_func hc ho
  | slice t x lo hi mx => exact ok_slice hc ho
  | fieldAddr t x n => exact ok_fieldAddr hc ho
  | field t x n => exact ok_field hc ho
  | indexAddr t x y => exact ok_indexAddr hc ho
  | index t x y => exact ok_index hc ho
  | lookup t x k ok => exact ok_lookup hc ho
  | typeAssert x t asserted ok => exact ok_assert hc ho
  | extract x i => exact ok_extract hc ho
  | call c => exact ok_call hc ho
  | _ => unfold ev; simp only [ho]; trivial
end
end Go.Lf
