/- A small logic over the kit's calls. Part 12: the operations that change something. -/
import Derived.Test.YtmdjomilicoobaaLf11
namespace Go.Lf
open Go

section
variable {P : Program} {B : Nat} {g0 : G} {w0 : World} {N : Nat} {D : List Deferred} {g : G} {lb : Nat → Option Nat} {a : Act} {w : World} {X : St} {o : Oper} {esc : List Nat}

theorem run_u {s : Sem Unit} {Q : Result Next} (h : (s.run P w).andThen (fun _ w' => .ok .skip w') = Q) : Sem.run P (do s; pure Next.skip) w = Q := by
  rw [← h, Sem.run_bind]; rfl

theorem noLref {v : V} {ow : Own} {k off : Nat} (h : TV.val v ow = .lref k off) : False := by cases h

theorem append_pre {t : TypeId} {s b : Nat} (h : appInfo P t = some (s, b)) : ∃ e i z, P.underlying t = some (.slice e) ∧ P.info? e = some i ∧ i.zero = some z ∧ i.size = s ∧ z.cells.size = s ∧ 0 < s ∧ i.bytes = b ∧ 0 < b := by
  unfold appInfo at h
  split at h
  · rename_i e hu
    split at h
    · rename_i i hi
      split at h
      · rename_i z hz
        split at h
        · rename_i hc
          cases h
          exact ⟨e, i, z, hu, hi, hz, rfl, hc.1, hc.2.1, rfl, hc.2.2⟩
        · cases h
      · cases h
    · cases h
  · cases h

theorem srcV_src {tx : TypeId} {s : Nat} (hs0 : 0 < s) {tv : TV} {y : Value} (hr : RepT g lb w tv y) {xs : List V} (h : srcV P tx s tv = some xs) (hxs : ∀ e ∈ xs, e.cells.length = s) :
    ∃ news, Src P s tx y xs.length news w ∧ Cov g w s xs news := by
  unfold srcV at h
  split at h
  · rename_i e' xs' o' hk
    cases h
    exact src_slice hs0 hk hr.1 hxs
  · rename_i b o' hk
    split at h
    · rename_i h1
      cases h
      subst h1
      have hv := rep_raw hr
      subst hv
      exact src_string hk b
    · cases h
  · cases h

theorem In.appended (h : In B g0 w0 N D g lb X a w) {π : Toks} {s : Nat} {zs : List V} {r : Result Value} (ha : Appended P g w X.σ π s zs r) {d : Option Tmp} (hd : ∀ t, d = some t → t < N) {K : St → Prop}
    (hk : ∀ t', π t' = none → K (St.put { X with π := upd π t' (some s) } d (.val (.sl zs) (.tok t')))) {next : Act → World → Prop} (hK : ∀ g lb X a w, K X → In B g0 w0 N D g lb X a w → next a w) :
    ∃ v w', r = .ok v w' ∧ next (a.put d v) w' := by
  obtain ⟨v, w', g', t', h1, h2, h3, h4, h5, h6⟩ := ha
  exact ⟨v, w', h1, hK _ _ _ _ _ (hk t' h3) ((h.step h2 h4).put ⟨h5, h6⟩ (fun k off e => (noLref e).elim) hd)⟩

theorem vcAppend_sound (h : In B g0 w0 N D g lb X a w) {d : Option Tmp} (hd : ∀ t, d = some t → t < N) {t tx : TypeId} {x y : TV} {vx vy : Value} (hx : RepT g lb w x vx) (hy : RepT g lb w y vy) {K : St → Prop} (hv : vcAppend P X d t tx x y K)
    {next : Act → World → Prop} (hK : ∀ g lb X a w, K X → In B g0 w0 N D g lb X a w → next a w) (ty : TypeId) :
    ∃ v w', (Builtin.append_ #[t, tx] ty #[vx, vy]).run P w = .ok v w' ∧ next (a.put d v) w' := by
  unfold vcAppend at hv
  split at hv
  · exact hv.elim
  · rename_i s by_ hinfo
    obtain ⟨e, i, z, hu, hi, hz, hsz, hzs, hs0, hby, hb0⟩ := append_pre hinfo
    subst hby
    split at hv
    · rename_i es ow xs hsrc
      obtain ⟨h1, h2, h3, h4⟩ := hv
      obtain ⟨news, hs1, hs2⟩ := srcV_src hs0 hy hsrc h2
      obtain ⟨hx1, hx2⟩ := hx
      have same : ∀ ow', xs = [] → Fits g ow' vx → K (X.put d (.val (.sl es) ow')) → ∃ v w', (Builtin.append_ #[t, tx] ty #[vx, vy]).run P w = .ok v w' ∧ next (a.put d v) w' := fun ow' hxs hf hk => by
        subst hxs
        have hnn : news = [] := by have := hs2.len; simpa using this
        subst hnn
        exact ⟨vx, w, append_none hu hi hsz hx1 hs1, hK _ _ _ _ _ hk (h.put ⟨hx1, hf⟩ (fun k off e => (noLref e).elim) hd)⟩
      cases ow with
      | no => exact same .no h4.1 trivial h4.2
      | tok tk =>
        obtain ⟨h5, h6⟩ := h4
        exact h.appended (append_tok hu hi hz hsz hzs hs0 hb0 h.conc.inv hx1 h1 hs1 hs2 h3 hx2 h5) hd h6 hK
      | nil =>
        cases xs with
        | nil => exact same .nil rfl hx2 h4
        | cons x' xs => exact h.appended (append_full hu hi hz hsz hzs hs0 hb0 h.conc.inv hx1 h1 hs1 hs2 h3 (.inl hx2) (by simp)) hd h4 hK
      | full =>
        cases xs with
        | nil => exact same .full rfl hx2 h4
        | cons x' xs => exact h.appended (append_full hu hi hz hsz hzs hs0 hb0 h.conc.inv hx1 h1 hs1 hs2 h3 hx2 (by simp)) hd h4 hK
    · exact hv.elim

/-- The entries of a map, one of them turned. -/
theorem find_modify (n k : Int) : ∀ (es : List MapEntry) (j : Nat) (u : Value), (∀ e ∈ es, ∃ k, e.key = .int .i64 k) → (∀ e, es[j]? = some e → keyIs n e = true) → (∀ j' e', j' < j → es[j']? = some e' → keyIs n e' = false) →
    (es.modify j fun e => { e with key := .int .i64 n, val := u }).find? (keyIs k) = if k = n then (es[j]?).map fun e => { e with key := .int .i64 n, val := u } else es.find? (keyIs k)
  | [], j, u, _, _, _ => by simp
  | e :: es, 0, u, hall, he, _ => by
    obtain ⟨ke, hke⟩ := hall e (by simp)
    have hn : n = ke := by simpa [keyIs, hke] using he e rfl
    by_cases hk : k = n
    · subst hk
      simp [keyIs]
    · have h1 : (k == n) = false := by simp [hk]
      have h2 : keyIs k e = false := by simp [keyIs, hke, ← hn, hk]
      simp [keyIs, h1, hk, List.find?_cons, h2]
      simp [keyIs, hke, ← hn, h1]
  | e :: es, j + 1, u, hall, he, hlt => by
    have h0 := hlt 0 e (by omega) rfl
    have ih := find_modify n k es j u (fun e' h => hall e' (by simp [h])) (fun e' h => he e' (by simpa using h)) (fun j' e' h h' => hlt (j' + 1) e' (by omega) (by simpa using h'))
    obtain ⟨ke, hke⟩ := hall e (by simp)
    rw [List.modify_succ_cons, List.find?_cons, ih]
    by_cases hk : k = n
    · subst hk
      simp [h0]
    · simp only [hk, if_false]
      rw [List.find?_cons]

theorem run_mapUpdate {t key elem : TypeId} (hu : P.underlying t = some (.map key elem)) (hk : P.underlying key = some (.int .i64)) {b : Nat} {es : Array MapEntry} {clock : Nat} (hb : w.heap[b]? = some (.map es clock))
    (hkeys : ∀ e ∈ es.toList, ∃ k, e.key = .int .i64 k) (n : Int) (u : Value) : ∃ es' clock', (Instr.mapUpdate t (.map (some b)) (.int .i64 n) u).run P w = .ok () { w with heap := w.heap.setIfInBounds b (.map es' clock') } ∧
      (∀ e ∈ es'.toList, ∃ k, e.key = .int .i64 k) ∧ (∃ e, es'.toList.find? (keyIs n) = some e ∧ e.val = u) ∧ ∀ k, k ≠ n → es'.toList.find? (keyIs k) = es.toList.find? (keyIs k) := by
  have hget : (getObj b).run P w = .ok (.map es clock) w := by simp [getObj, Sem.run, hb]
  have hset : ∀ es' c', (setObj b (.map es' c')).run P w = .ok () { w with heap := w.heap.setIfInBounds b (.map es' c') } := fun es' c' => by simp [setObj, Sem.run, hb]
  have hck : (Instr.checkKey false 10000 key (.int .i64 n)).run P w = .ok () w := checkKey_int hk .i64 n
  rcases findNow_find .i64 n es.toList 0 hkeys with ⟨j, e, h1, h2, h3, h4⟩ | ⟨h1, h2⟩
  · have hkn : keyIs n e = true := by simpa using List.find?_some h1
    obtain ⟨ke, hke⟩ := hkeys e (List.mem_of_getElem? h2)
    have hn : n = ke := by simpa [keyIs, hke] using hkn
    have h2' : es[j]? = some e := by simpa using h2
    refine ⟨es.modify j fun e => { e with key := .int .i64 n, val := u }, clock, ?_, fun e' he' => ?_, ?_, fun k hkne => ?_⟩
    · have hks : (Instr.keyThatStays (((es[j]?).map (·.key)).getD (.int .i64 n)) (.int .i64 n)).run P w = .ok (.int .i64 n) w := by
        rw [h2']
        simp only [Option.map_some, Option.getD_some, hke, ← hn]
        have : Instr.sameBits 10000 (.int .i64 n) (.int .i64 n) = true := by simp [Instr.sameBits]
        simp [Instr.keyThatStays, this]
      simp only [Instr.mapUpdate, Sem.run_bind, run_underlying hu, Result.andThen_ok, hget, hck, Instr.findKey, run_underlying hk, h3, Sem.run_pure, Nat.zero_add, hks, hset]
    · rw [Array.toList_modify] at he'
      obtain ⟨i, hi, hie⟩ := List.getElem_of_mem he'
      by_cases e1 : j = i
      · subst e1
        simp [List.getElem_modify] at hie
        exact ⟨n, by rw [← hie]⟩
      · simp [List.getElem_modify, e1] at hie
        exact hkeys e' (by rw [← hie]; simp)
    · have := find_modify n n es.toList j u hkeys (fun e' h => by rw [h2] at h; cases h; exact hkn) h4
      rw [Array.toList_modify, this, if_pos rfl, h2]
      exact ⟨_, rfl, rfl⟩
    · have := find_modify n k es.toList j u hkeys (fun e' h => by rw [h2] at h; cases h; exact hkn) h4
      rw [Array.toList_modify, this, if_neg hkne]
  · refine ⟨es.push { key := .int .i64 n, val := u, born := clock }, clock + 1, ?_, fun e' he' => ?_, ⟨{ key := .int .i64 n, val := u, born := clock }, ?_, rfl⟩, fun k hkne => ?_⟩
    · simp only [Instr.mapUpdate, Sem.run_bind, run_underlying hu, Result.andThen_ok, hget, hck, Instr.findKey, run_underlying hk, h2, Sem.run_pure, hset]
    · rw [Array.toList_push, List.mem_append] at he'
      rcases he' with he' | he'
      · exact hkeys e' he'
      · simp at he'; subst he'; exact ⟨n, rfl⟩
    · rw [Array.toList_push, List.find?_append, h1]
      simp [keyIs]
    · rw [Array.toList_push, List.find?_append]
      have : keyIs k { key := .int .i64 n, val := u, born := clock } = false := by simp [keyIs, hkne]
      simp [this]

/-- An operation that changes something, and what follows. -/
theorem vcM_sound (h : In B g0 w0 N D g lb X a w) (hd : ∀ t, o.dst = some t → t < N) {K : St → Prop} {Qp : V → St → Prop} (hv : vcM P esc o X K Qp) {next : Act → World → Prop} {Q : Exit → Act → World → Prop}
    (hK : ∀ g lb X a w, K X → In B g0 w0 N D g lb X a w → next a w)
    (hQ : ∀ g lb X v x a w, Qp v X → In B g0 w0 N D g lb X a w → Rep g w v x → Q (.panic [{ v := x, recovered := false }]) a w) : o.wp P a w next Q := by
  have hc := h.conc
  unfold vcM at hv
  split at hv
  · -- store
    rename_i t ad x ho
    split at hv
    · exact hv.elim
    · rename_i new hnew
      have hnr := (hc.eval x).cells? hnew
      have hrun : ∀ {b off : Nat} {vs : Array Value} {T : TypeId}, a.eval ad = .pointer (some ⟨b, off, none⟩) → w.heap[b]? = some (.cells vs T (0, 0)) → sz? P t = some new.length → off + new.length ≤ vs.size →
          (execOp a.eval o).run P w = .ok .skip (w.setCells b off (a.eval x).cells.toList) := fun {b off vs T} h1 h2 h3 h4 => by
        have hl := hnr.1
        have := run_storeAt (P := P) (t := t) (off := off) (v := a.eval x) h2 (by rw [h3, hl]) (by omega) hnr.ones
        unfold execOp
        simp only [ho, h1]
        refine run_u ?_
        rw [this]; rfl
      split at hv
      · rename_i k off he
        have had := hc.eval ad
        rw [he] at had
        obtain ⟨b, hb, hav⟩ := had
        split at hv
        · rename_i cs hcs
          split at hv
          · rename_i hcond
            simp only [Bool.and_eq_true, beq_iff_eq, Nat.ble_eq] at hcond
            obtain ⟨b', vs, T, h1, h2, h3, h4, h5, h6⟩ := hc.loc k cs hcs
            rw [hb] at h1; cases h1
            have hl := h6.1
            have hnl := hnr.1
            obtain ⟨e1, e2, vs', e3, e4, e5⟩ := heap_setCells b (a.eval x).cells.toList off w vs T (0, 0) h5 (by simp; omega)
            unfold Oper.wp
            rw [hrun hav h5 hcond.1 (by omega), Oper.upon_skip]
            refine hK _ _ _ _ _ hv (In.put (h.setL hcs hb e1 e2 (env_setCells ..) e3 (fun g' w'' hx => repCs_new (h6.ext hx) (hnr.ext hx) hcond.2 e4 e5)) (Rep.any_no _) (fun k off e => (noLref e).elim) hd)
          · exact hv.elim
        · exact hv.elim
      · rename_i l off o' he
        have had := hc.eval ad
        rw [he] at had
        obtain ⟨had, _⟩ := had
        obtain ⟨cs, hcs, h1, h2, hk⟩ := hv
        obtain ⟨b, hb, hkd, vs, T, h5, h6⟩ := hc.inv.objs l _ hcs
        generalize hav : a.eval ad = u at had
        cases had with
        | ref _ _ b' hl' =>
          rw [hb] at hl'; cases hl'
          have hl := h6.1
          have hnl := hnr.1
          obtain ⟨e1, e2, vs', e3, e4, e5⟩ := heap_setCells b (a.eval x).cells.toList off w vs T (0, 0) h5 (by simp; omega)
          have hext0 : Ext 0 g w g (w.setCells b off (a.eval x).cells.toList) := by
            refine ⟨by omega, fun b' hb' => by omega, fun b' m n hk' => ⟨m, Nat.le_refl _, hk', fun i _ => cell_of_heap (e2 b' (fun e => by rw [e, hkd] at hk'; cases hk')) i⟩, fun _ h => h, fun _ _ h => h, fun _ _ h => h, env_setCells .., fun b' m n hk' c T' fr hc => ⟨c, (e2 b' (fun e => by rw [e, hkd] at hk'; cases hk')).trans hc, rfl⟩⟩
          obtain ⟨i1, i2⟩ := inv_pokeObj hc.inv hcs hb e1 e2 (env_setCells ..) (ob' := .var (setAt cs off new)) (fun _ => ⟨vs', T, e3, repCs_new (h6.ext hext0) (hnr.ext hext0) h2 e4 e5⟩)
          unfold Oper.wp
          rw [hrun hav h5 h1 (by omega), Oper.upon_skip]
          exact hK _ _ _ _ _ hk ((h.step (i2 _) i1).put (Rep.any_no _) (fun k off e => (noLref e).elim) hd)
      · exact hv.elim
  · -- alloc
    rename_i t ho
    split at hv
    · rename_i cs hz
      obtain ⟨z, h1, h2⟩ := zeroC_run (P := P) (g := g) (w := w) hz
      obtain ⟨l, hl1, hl2⟩ := hc.inv.freshLoc
      obtain ⟨g', i1, i2, i3⟩ := inv_newObj hc.inv hl1 hl2 (.cells z.cells t (0, 0)) (ob := .var cs) (fun g' w' hh hx => ⟨_, _, hh, h2.ext hx⟩)
      have hrun : (execOp a.eval o).run P w = .ok (.value (.pointer (some ⟨w.heap.size, 0, none⟩))) (w.alloc (.cells z.cells t (0, 0))) := by
        unfold execOp
        simp only [ho]
        refine run_v ?_
        simp [Instr.alloc, Sem.run_bind, h1, newVar, newRow]
      unfold Oper.wp
      rw [hrun, Oper.upon_value]
      exact hK _ _ _ _ _ (hv l hl1) ((h.step i3 i2).put ⟨.ref _ _ _ i1, trivial⟩ (fun k off e => (noLref e).elim) hd)
    · exact hv.elim
  · -- box
    rename_i t x ho
    split at hv
    · rename_i cs hz
      have h2 := (hc.eval x).cells? hz
      obtain ⟨l, hl1, hl2⟩ := hc.inv.freshLoc
      obtain ⟨g', i1, i2, i3⟩ := inv_newObj hc.inv hl1 hl2 (.cells (a.eval x).cells t (0, 0)) (ob := .var cs) (fun g' w' hh hx => ⟨_, _, hh, h2.ext hx⟩)
      have hrun : (execOp a.eval o).run P w = .ok (.value (.pointer (some ⟨w.heap.size, 0, none⟩))) (w.alloc (.cells (a.eval x).cells t (0, 0))) := by
        unfold execOp
        simp only [ho]
        refine run_v ?_
        simp [Instr.box, newVar, newRow]
      unfold Oper.wp
      rw [hrun, Oper.upon_value]
      exact hK _ _ _ _ _ (hv l hl1) ((h.step i3 i2).put ⟨.ref _ _ _ i1, trivial⟩ (fun k off e => (noLref e).elim) hd)
    · exact hv.elim
  · -- makeMap
    rename_i t r ho
    split at hv
    · obtain ⟨l, hl1, hl2⟩ := hc.inv.freshLoc
      obtain ⟨g', i1, i2, i3⟩ := inv_newObj hc.inv hl1 hl2 (.map #[] 0) (ob := .map fun _ => none) (fun g' w' hh hx => ⟨#[], 0, hh, fun e he => by simp at he, fun k => by simp⟩)
      have hrun : (execOp a.eval o).run P w = .ok (.value (.map (some w.heap.size))) (w.alloc (.map #[] 0)) := by
        unfold execOp
        simp only [ho]
        refine run_v ?_
        simp [Instr.makeMap]
      unfold Oper.wp
      rw [hrun, Oper.upon_value]
      exact hK _ _ _ _ _ (hv l hl1) ((h.step i3 i2).put ⟨.mp _ _ i1, trivial⟩ (fun k off e => (noLref e).elim) hd)
    · exact hv.elim
  · -- mapUpdate
    rename_i t m k v ho
    split at hv
    · exact hv.elim
    · rename_i hkey
      split at hv
      · rename_i l o1 n o2 u e1 e2 e3
        obtain ⟨f, hf, hk⟩ := hv
        have hm := hc.eval m
        rw [e1] at hm
        obtain ⟨hm, _⟩ := hm
        have hkk := hc.eval k
        rw [e2] at hkk
        have hkv := rep_raw hkk
        have hvv := (hc.eval v).v? e3
        obtain ⟨b, hb, hkd, es, clock, h5, h6, h7⟩ := hc.inv.objs l _ hf
        unfold keyI64 at hkey
        split at hkey
        · rename_i key elem hu
          split at hkey
          · rename_i hki
            generalize hmv : a.eval m = um at hm
            cases hm with
            | mp _ b' hl' =>
              rw [hb] at hl'; cases hl'
              obtain ⟨es', clock', r1, r2, ⟨e', r3, r4⟩, r5⟩ := run_mapUpdate (P := P) hu hki h5 h6 n (a.eval v)
              have hbl : b < w.heap.size := (Array.getElem?_eq_some_iff.1 h5).1
              have s1 : ({ w with heap := w.heap.setIfInBounds b (.map es' clock') } : World).heap.size = w.heap.size := by simp
              have s2 : ∀ b', b' ≠ b → ({ w with heap := w.heap.setIfInBounds b (.map es' clock') } : World).heap[b']? = w.heap[b']? := fun b' hb' => by
                show (w.heap.setIfInBounds b _)[b']? = _
                rw [Array.getElem?_setIfInBounds_ne (Ne.symm hb')]
              have s3 : ({ w with heap := w.heap.setIfInBounds b (.map es' clock') } : World).heap[b]? = some (.map es' clock') := by
                show (w.heap.setIfInBounds b _)[b]? = _
                simp [hbl]
              have hext0 : Ext 0 g w g { w with heap := w.heap.setIfInBounds b (.map es' clock') } := by
                refine ⟨by rw [s1]; exact Nat.le_refl _, fun b' hb' => by omega, fun b' m n hk' => ⟨m, Nat.le_refl _, hk', fun i _ => cell_of_heap (s2 b' (fun e => by rw [e, hkd] at hk'; cases hk')) i⟩, fun _ h => h, fun _ _ h => h, fun _ _ h => h, ⟨rfl, rfl⟩, fun b' m n hk' c T' fr hc => ⟨c, (s2 b' (fun e => by rw [e, hkd] at hk'; cases hk')).trans hc, rfl⟩⟩
              obtain ⟨i1, i2⟩ := inv_pokeObj hc.inv hf hb s1 s2 ⟨rfl, rfl⟩ (ob' := .map fun n' => if n' = n then some u else f n') (fun _ => ⟨es', clock', s3, r2, fun k' => by
                by_cases hkn : k' = n
                · subst hkn
                  rw [r3]
                  exact ⟨u, by simp, by rw [r4]; exact hvv.ext hext0⟩
                · rw [r5 k' hkn]
                  have := h7 k'
                  split
                  · rename_i e'' he''
                    rw [he''] at this
                    obtain ⟨v', h8, h9⟩ := this
                    exact ⟨v', by simp [hkn, h8], h9.ext hext0⟩
                  · rename_i he''
                    rw [he''] at this
                    simp [hkn, this]⟩)
              unfold Oper.wp
              have hrun : (execOp a.eval o).run P w = .ok .skip { w with heap := w.heap.setIfInBounds b (.map es' clock') } := by
                unfold execOp
                simp only [ho, hmv, hkv]
                refine run_u ?_
                rw [r1]; rfl
              rw [hrun, Oper.upon_skip]
              exact hK _ _ _ _ _ hk ((h.step (i2 _) i1).put (Rep.any_no _) (fun k off e => (noLref e).elim) hd)
          · cases hkey
        · cases hkey
      · exact hv.elim
  · -- panic
    rename_i x ho
    split at hv
    · rename_i t v hvv
      have hx := (hc.eval x).v? hvv
      generalize hav : a.eval x = u at hx
      cases hx with
      | iface _ _ y hy =>
        unfold Oper.wp
        have hrun : (execOp a.eval o).run P w = .halt (.panic (.iface t y)) w := by
          unfold execOp
          simp only [ho, hav]
          simp [Instr.panic]
        rw [hrun, Oper.upon_panic]
        exact hQ _ _ _ _ _ _ _ hv h (.iface _ _ _ hy)
    · exact hv.elim
  · -- call
    rename_i c ho
    split at hv
    · rename_i hcal
      split at hv
      · rename_i t tx x y ht htx hx hy
        split at hv
        · rename_i hsz
          simp only [Bool.and_eq_true, beq_iff_eq] at hsz
          have hat : c.argTypes = #[t, tx] := by
            apply Array.ext
            · simp [hsz.1]
            · intro i h1 h2
              simp at h2
              rcases (show i = 0 ∨ i = 1 by omega) with rfl | rfl
              · rw [Array.getElem?_eq_some_iff] at ht; simpa using ht.2
              · rw [Array.getElem?_eq_some_iff] at htx; simpa using htx.2
          have hag : c.args.map a.eval = #[a.eval x, a.eval y] := by
            apply Array.ext
            · simp [hsz.2]
            · intro i h1 h2
              simp at h2
              rcases (show i = 0 ∨ i = 1 by omega) with rfl | rfl
              · rw [Array.getElem?_eq_some_iff] at hx; simp [hx.2]
              · rw [Array.getElem?_eq_some_iff] at hy; simp [hy.2]
          obtain ⟨v, w', r1, r2⟩ := vcAppend_sound h hd (hc.eval x) (hc.eval y) hv hK o.type
          unfold Oper.wp
          have hrun : (execOp a.eval o).run P w = .ok (.value v) w' := by
            unfold execOp
            simp only [ho]
            simp [resolve, hcal, invoke, builtin, hag, hat, r1]
          rw [hrun, Oper.upon_value]
          exact r2
        · exact hv.elim
      · exact hv.elim
    · rename_i f hcal
      split at hv
      · rename_i fid first cap o1 vs e1 e2
        have hf := hc.eval f
        rw [e1] at hf
        obtain ⟨hf, _⟩ := hf
        have hargs := hc.evals _ e2
        generalize hfv : a.eval f = u at hf
        cases hf with
        | fn _ _ _ fs cs hl1 hl2 hr1 hr2 =>
          obtain ⟨⟨fn, hfn, hbody, hname⟩, hcalls⟩ := hv
          have hall : Reps g w (first ++ vs ++ cap) (fs ++ c.args.map a.eval ++ cs) := by
            have hlen := hargs.1
            simp at hlen
            refine ⟨by simp; omega, fun i v x h1 h2 => ?_⟩
            rw [List.getElem?_append, List.length_append] at h1
            rw [Array.getElem?_append, Array.size_append, Array.size_map] at h2
            by_cases i1 : i < first.length + vs.length
            · rw [if_pos i1] at h1
              rw [if_pos (by omega)] at h2
              rw [List.getElem?_append] at h1
              rw [Array.getElem?_append] at h2
              by_cases i2 : i < first.length
              · rw [if_pos i2] at h1
                rw [if_pos (by omega)] at h2
                exact hr1 i v x h1 h2
              · rw [if_neg i2] at h1
                rw [if_neg (by omega)] at h2
                refine hargs.2 (i - first.length) v x h1 ?_
                rw [← hl1] at h2
                simpa using h2
            · rw [if_neg i1] at h1
              rw [if_neg (by omega)] at h2
              refine hr2 (i - (first.length + vs.length)) v x h1 ?_
              rw [← h2]
              congr 1
              omega
          have hcall := hcalls g w _ hc.inv hall
          unfold Oper.wp
          have hb2 : ¬ fn.body = none := fun e => by rw [e] at hbody; cases hbody
          have hn2 : ¬ fn.name = "runtime.NumGoroutine" := by simpa using hname
          have hrun : (execOp a.eval o).run P w = .ok (.enter fid (fs ++ c.args.map a.eval ++ cs)) w := by
            unfold execOp
            simp only [ho]
            simp [resolve, hcal, hfv, Deferred.ofValue, invoke, callFunc, hfn, hn2, hb2]
          rw [hrun, Oper.upon_enter]
          refine hcall.mono fun e w' ⟨g', r, σ', π', h1, h2, h3, h4⟩ => ?_
          have hin := h.step h2 h3
          cases r with
          | ret v =>
            obtain ⟨x, rfl, hx⟩ := h4
            exact hK _ _ _ _ _ h1 (hin.put ⟨hx, trivial⟩ (fun k off e => (noLref e).elim) hd)
          | panic v =>
            obtain ⟨x, rfl, hx⟩ := h4
            exact hQ _ _ _ _ _ _ _ h1 hin hx
      · exact hv.elim
    · exact hv.elim
  · exact hv.elim

theorem vcOp_sound (h : In B g0 w0 N D g lb X a w) (hd : ∀ t, o.dst = some t → t < N) {K : St → Prop} {Qp : V → St → Prop} (hv : vcOp P esc o X K Qp) {next : Act → World → Prop} {Q : Exit → Act → World → Prop}
    (hK : ∀ g lb X a w, K X → In B g0 w0 N D g lb X a w → next a w)
    (hQ : ∀ g lb X v x a w, Qp v X → In B g0 w0 N D g lb X a w → Rep g w v x → Q (.panic [{ v := x, recovered := false }]) a w) : o.wp P a w next Q := by
  unfold vcOp at hv
  split at hv
  · exact vcM_sound h hd hv hK hQ
  · exact vcE_sound h hd hv hK
end
end Go.Lf
