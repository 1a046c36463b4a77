/- A small logic over the kit's calls. Part 5: maps that are read, what is built, and all such operations together. -/
import Derived.Test.YtmdjomilicoobaaLf4
namespace Go.Lf
open Go

theorem findNow_find (kk : IntKind) (n : Int) : ∀ (es : List MapEntry) (i : Nat), (∀ e ∈ es, ∃ k, e.key = .int .i64 k) →
    (∃ j e, es.find? (keyIs n) = some e ∧ es[j]? = some e ∧ Instr.findNow (.int kk) (.int .i64 n) es i = some (some (i + j, e.val)) ∧ ∀ j' e', j' < j → es[j']? = some e' → keyIs n e' = false) ∨
    (es.find? (keyIs n) = none ∧ Instr.findNow (.int kk) (.int .i64 n) es i = some none)
  | [], i, _ => .inr ⟨rfl, rfl⟩
  | e :: es, i, h => by
    obtain ⟨k, hk⟩ := h e (by simp)
    by_cases hn : n = k
    · refine .inl ⟨0, e, ?_, rfl, ?_, fun j' e' hj => by omega⟩
      · simp [List.find?_cons, keyIs, hk, hn]
      · simp [Instr.findNow, Instr.sameNow, hk, hn]
    · have hb : (n == k) = false := by simp [hn]
      have h1 : keyIs n e = false := by simp only [keyIs, hk, hb]
      rcases findNow_find kk n es (i + 1) (fun e' he => h e' (by simp [he])) with ⟨j, e2, h2, h3, h4, h5⟩ | ⟨h2, h3⟩
      · refine .inl ⟨j + 1, e2, by simp [List.find?_cons, h1, h2], by simpa using h3, ?_, fun j' e' hj he => ?_⟩
        · simp only [Instr.findNow, Instr.sameNow, hk, hb, h4, if_true]; congr 3; omega
        · cases j' with
          | zero => simp at he; subst he; exact h1
          | succ j' => exact h5 j' e' (by omega) (by simpa using he)
      · exact .inr ⟨by simp [List.find?_cons, h1, h2], by simp only [Instr.findNow, Instr.sameNow, hk, hb, h3, if_true]⟩

section
variable {P : Program} {B : Nat} {g : G} {lb : Nat → Option Nat} {a : Act} {w : World} {X : St} {o : Oper} {esc : List Nat}

theorem rep_ofValue (v : Value) : Rep g w (V.ofValue v) v := by
  unfold V.ofValue
  split
  · split
    · rename_i cs h
      have := repCs_cellOf g w cs h
      refine .agg _ _ (by simp) (fun i c v hc hv => ?_)
      simp only [List.getElem?_map, Option.map_eq_some_iff] at hc
      obtain ⟨c', h3, rfl⟩ := hc
      exact (this.2 i (cellOf c') v (by simp only [List.getElem?_map, h3, Option.map_some]) hv).1.1
    · exact .raw _
  · exact .nil
  · exact .raw _

theorem zeroV_run {t : TypeId} {z : V} (h : zeroV P t = some z) : ∃ v, (zeroValue t).run P w = .ok v w ∧ Rep g w z v := by
  unfold zeroV at h
  split at h
  · rename_i i hi
    split at h
    · rename_i z hz
      cases h
      exact ⟨z, by simp [zeroValue, typeInfo, hi, hz], rep_ofValue z⟩
    · cases h
  · cases h

theorem checkKey_int {e : Bool} {key : TypeId} {kk : IntKind} (hu : P.underlying key = some (.int kk)) (k : IntKind) (n : Int) : (Instr.checkKey e 10000 key (.int k n)).run P w = .ok () w := by
  show (Instr.checkKey e (9999 + 1) key (.int k n)).run P w = .ok () w
  unfold Instr.checkKey
  rw [Sem.run_bind, run_underlying hu w]
  rfl

theorem rep_tup2 {x y : V} {v u : Value} (h : Rep g w x v) (h' : Rep g w y u) : Rep g w (.tup [x, y]) (.tuple #[v, u]) := by
  refine .tup _ _ rfl (fun i c v hc hv => ?_)
  match i, hc, hv with
  | 0, hc, hv => simp at hc hv; subst hc; subst hv; exact h
  | 1, hc, hv => simp at hc hv; subst hc; subst hv; exact h'
  | i + 2, hc, hv => simp at hc

theorem ok_lookup (hc : Conc B g lb a w X) {t : TypeId} {x k : Operand} {ok : Bool} (ho : o.op = .lookup t x k ok) : ERok P g lb a w X o (ev P esc o X) := by
  have hx := hc.eval x
  have hk := hc.eval k
  have hrun : (execOp a.eval o).run P w = ((Instr.lookup t (a.eval x) (a.eval k) ok).run P w).andThen fun v w' => .ok (.value v) w' := by
    unfold execOp
    simp only [ho]
    exact run_v rfl
  unfold ev
  simp only [ho]
  unfold evLookup
  split
  · rename_i key elem hu
    split
    · rename_i z l o1 n o2 hkey hz e1 e2
      rw [e1] at hx; rw [e2] at hk
      have hk' := rep_raw hk
      obtain ⟨hx, _⟩ := hx
      obtain ⟨z0, hz1, hz2⟩ := zeroV_run (P := P) (g := g) (w := w) hz
      intro obj r hobj hr
      cases obj with
      | var cs => cases hr
      | map m =>
        cases hr
        generalize hv : a.eval x = u at hx
        cases hx with
        | mp _ b hl =>
          obtain ⟨b', h1, _, h3⟩ := hc.inv.objs l _ hobj
          rw [hl] at h1; cases h1
          obtain ⟨es, clock, h4, h5, h6⟩ := h3
          have hget : (getObj b).run P w = .ok (.map es clock) w := by simp [getObj, Sem.run, h4]
          have h7 := h6 n
          have hck : ∀ e, (Instr.checkKey e 10000 key (.int .i64 n)).run P w = .ok () w := fun e => checkKey_int hkey .i64 n
          have hlook : ∃ v, (Instr.lookup t (.map (some b)) (.int .i64 n) ok).run P w = .ok (if ok then .tuple #[v, .bool (m n).isSome] else v) w ∧ Rep g w ((m n).getD z) v := by
            rcases findNow_find .i64 n es.toList 0 h5 with ⟨j, e, h8, _, h9, _⟩ | ⟨h8, h9⟩
            · rw [h8] at h7
              obtain ⟨v, h10, h11⟩ := h7
              refine ⟨e.val, ?_, by rw [h10]; exact h11⟩
              cases ok <;> simp [Instr.lookup, run_underlying hu, hget, hck, Instr.findKey, run_underlying hkey, h9, h10]
            · rw [h8] at h7
              refine ⟨z0, ?_, by rw [h7]; exact hz2⟩
              cases ok <;> simp [Instr.lookup, run_underlying hu, hget, hck, Instr.findKey, run_underlying hkey, h9, h7, hz1]
          obtain ⟨v, h8, h9⟩ := hlook
          refine Out.same hc (v := if ok then .tuple #[v, .bool (m n).isSome] else v) (by rw [hrun, hv, hk', h8]; rfl) ?_ (fun k off h => by cases ok <;> cases h)
          cases ok with
          | true => exact ⟨rep_tup2 h9 (.raw _), trivial⟩
          | false => exact ⟨h9, trivial⟩
    · rename_i z o1 n o2 hkey hz e1 e2
      rw [e1] at hx; rw [e2] at hk
      have hk' := rep_raw hk
      have hx' := rep_raw hx
      obtain ⟨z0, hz1, hz2⟩ := zeroV_run (P := P) (g := g) (w := w) hz
      have hck : ∀ e, (Instr.checkKey e 10000 key (.int .i64 n)).run P w = .ok () w := fun e => checkKey_int hkey .i64 n
      refine Out.same hc (v := if ok then .tuple #[z0, .bool false] else z0) ?_ ?_ (fun k off h => by cases ok <;> cases h)
      · rw [hrun, hx', hk']
        cases ok <;> simp [Instr.lookup, run_underlying hu, hck, Instr.findKey, run_underlying hkey, Instr.findNow, hz1]
      · cases ok with
        | true => exact ⟨rep_tup2 hz2 (.raw _), trivial⟩
        | false => exact ⟨hz2, trivial⟩
    · trivial
  · trivial

theorem ok_assert (hc : Conc B g lb a w X) {t asserted : TypeId} {x : Operand} {ok : Bool} (ho : o.op = .typeAssert x t asserted ok) : ERok P g lb a w X o (ev P esc o X) := by
  have hx := hc.eval x
  unfold ev
  simp only [ho]
  split
  · trivial
  · rename_i tt v o1 d hno e1 hd
    rw [e1] at hx
    obtain ⟨hx, _⟩ := hx
    split
    · rename_i he
      subst he
      generalize hv : a.eval x = u at hx
      cases hx with
      | iface _ _ y hy =>
        refine Out.same hc (v := if ok then .tuple #[y, .bool true] else y) ?_ ?_ (fun k off h => by cases ok <;> cases h)
        · unfold execOp
          simp only [ho, hv]
          refine run_v ?_
          unfold Instr.typeAssert
          simp only [Sem.run_bind, run_underlying hd w, Result.andThen_ok]
          cases d <;> first | exact absurd rfl (hno _) | (cases ok <;> simp)
        · cases ok with
          | true => exact ⟨rep_tup2 hy (.raw _), trivial⟩
          | false => exact ⟨hy, trivial⟩
    · trivial
  · trivial

theorem ok_extract (hc : Conc B g lb a w X) {x : Operand} {i : Nat} (ho : o.op = .extract x i) : ERok P g lb a w X o (ev P esc o X) := by
  have hx := hc.eval x
  unfold ev
  simp only [ho]
  split
  · rename_i vs o1 e1
    rw [e1] at hx
    obtain ⟨hx, _⟩ := hx
    split
    · rename_i v hi
      generalize hv : a.eval x = u at hx
      cases hx with
      | tup _ us hl hh =>
        have hlt : i < us.size := by
          have := (List.getElem?_eq_some_iff.1 hi).1
          omega
        have hu : us[i]? = some us[i] := by simp [hlt]
        refine Out.same hc (v := us[i]) ?_ ⟨hh i v _ hi hu, trivial⟩ (fun k off h => by cases h)
        unfold execOp
        simp only [ho, hv]
        refine run_v ?_
        simp [Instr.extract, hu]
    · trivial
  · trivial

theorem raws_rep : ∀ {vs : List V} {us : List Value} {xs : List Value}, raws? vs = some us → Reps g w vs xs.toArray → xs = us
  | [], us, xs, h, hr => by cases h; exact List.length_eq_zero_iff.1 (by have := hr.1; simpa using this.symm)
  | .raw v :: r, us, xs, h, hr => by
    simp only [raws?, Option.map_eq_some_iff] at h
    obtain ⟨us', h1, rfl⟩ := h
    cases xs with
    | nil => have := hr.1; simp at this
    | cons x xs =>
      have h2 := hr.2 0 _ x rfl (by simp)
      cases h2
      rw [raws_rep (xs := xs) h1 ⟨by have := hr.1; simpa using this, fun i c v hc hv => hr.2 (i + 1) c v (by simpa using hc) (by simpa using hv)⟩]
  | .any :: _, _, _, h, _ => by cases h
  | .agg _ :: _, _, _, h, _ => by cases h
  | .tup _ :: _, _, _, h, _ => by cases h
  | .sl _ :: _, _, _, h, _ => by cases h
  | .ref _ _ :: _, _, _, h, _ => by cases h
  | .eptr _ _ :: _, _, _, h, _ => by cases h
  | .mp _ :: _, _, _, h, _ => by cases h
  | .fn _ _ _ :: _, _, _, h, _ => by cases h
  | .iface _ _ :: _, _, _, h, _ => by cases h

theorem ok_call (hc : Conc B g lb a w X) {c : Call} (ho : o.op = .call c) : ERok P g lb a w X o (ev P esc o X) := by
  unfold ev
  simp only [ho]
  unfold evCall
  split
  · rename_i hcal
    split
    · rename_i t x ht hx
      split
      · rename_i hsz
        have hx' := hc.eval x
        have hargs : c.args.map a.eval = #[a.eval x] := by
          apply Array.ext
          · simp [hsz]
          · intro i h1 h2
            have : i = 0 := by simp at h2; omega
            subst this
            have : c.args[0]'(by omega) = x := by
              rw [Array.getElem?_eq_some_iff] at hx; exact hx.2
            simp [this]
        have hrun : (execOp a.eval o).run P w = ((Builtin.len_ c.argTypes o.type #[a.eval x]).run P w).andThen fun v w' => .ok (.value v) w' := by
          unfold execOp
          simp only [ho]
          simp [resolve, hcal, invoke, builtin, hargs]
        unfold evLen
        split
        · rename_i e es o1 hu e1
          rw [e1] at hx'
          obtain ⟨hx', _⟩ := hx'
          generalize hv : a.eval x = u at hx' hrun
          refine Out.same hc (v := .int .i64 es.length) ?_ ⟨.raw _, trivial⟩ (fun k off h => by cases h)
          rw [hrun]
          cases hx' <;> simp [Builtin.len_, ht, run_underlying hu, goInt]
        · rename_i s o1 hu e1
          rw [e1] at hx'
          have hv := rep_raw hx'
          refine Out.same hc (v := .int .i64 s.size) ?_ ⟨.raw _, trivial⟩ (fun k off h => by cases h)
          rw [hrun, hv]
          simp [Builtin.len_, ht, run_underlying hu, goInt]
        · trivial
      · trivial
    · trivial
  · rename_i hcal
    split
    · rename_i vs hvs
      split
      · rename_i us hus
        have h1 := raws_rep hus (hc.evals _ hvs)
        refine ERok.raw hc ?_
        have h2 : c.args.map a.eval = us.toArray := Array.ext' (by simpa using h1)
        unfold execOp
        simp only [ho]
        simp [resolve, hcal, invoke, builtin, h2]
      · trivial
    · trivial
  · rename_i hcal
    split
    · rename_i vs hvs
      split
      · rename_i us hus
        have h1 := raws_rep hus (hc.evals _ hvs)
        refine ERok.raw hc ?_
        have h2 : c.args.map a.eval = us.toArray := Array.ext' (by simpa using h1)
        unfold execOp
        simp only [ho]
        simp [resolve, hcal, invoke, builtin, h2]
      · trivial
    · trivial
  · trivial
end
end Go.Lf
