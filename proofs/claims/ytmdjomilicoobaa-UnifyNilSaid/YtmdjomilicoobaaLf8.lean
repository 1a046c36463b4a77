/- A small logic over the kit's calls. Part 8: what is written: variables, shared ones, maps, new ones; slices that grow. -/
import Derived.Test.YtmdjomilicoobaaLf7
import Derived.Deep.AppendSrc
import Derived.Deep.Upon
namespace Go.Lf
open Go

theorem upd_same {α : Type} (f : Nat → α) (k : Nat) (x : α) : upd f k x k = x := by simp [upd]
theorem upd_ne {α : Type} (f : Nat → α) {k n : Nat} (x : α) (h : n ≠ k) : upd f k x n = f n := by
  have : Nat.beq n k = false := by rw [← Bool.not_eq_true, Nat.beq_eq]; exact h
  simp [upd, this]

theorem heap_setCells (b : Nat) : ∀ (news : List Value) (off : Nat) (w : World) (vs : Array Value) (T : TypeId) (fr : Nat × Nat), w.heap[b]? = some (.cells vs T fr) → off + news.length ≤ vs.size →
    (w.setCells b off news).heap.size = w.heap.size ∧ (∀ b', b' ≠ b → (w.setCells b off news).heap[b']? = w.heap[b']?) ∧
    ∃ vs', (w.setCells b off news).heap[b]? = some (.cells vs' T fr) ∧ vs'.size = vs.size ∧ ∀ i, vs'[i]? = if off ≤ i ∧ i < off + news.length then news[i - off]? else vs[i]?
  | [], off, w, vs, T, fr, h, _ => ⟨rfl, fun _ _ => rfl, vs, h, rfl, fun i => by simp; intro h1 h2; omega⟩
  | v :: r, off, w, vs, T, fr, h, hle => by
    have hb : b < w.heap.size := (Array.getElem?_eq_some_iff.1 h).1
    have h1 : (w.setCell ⟨b, off, none⟩ v).heap[b]? = some (.cells (vs.setIfInBounds off v) T fr) := by
      simp only [World.setCell, Array.getElem?_modify, h]
      simp
    have h2 : ∀ b', b' ≠ b → (w.setCell ⟨b, off, none⟩ v).heap[b']? = w.heap[b']? := fun b' hb' => by
      simp only [World.setCell, Array.getElem?_modify]
      rw [if_neg (Ne.symm hb')]
    obtain ⟨h3, h4, vs', h5, h6, h7⟩ := heap_setCells b r (off + 1) _ _ T fr h1 (by simp at hle ⊢; omega)
    refine ⟨?_, fun b' hb' => (h4 b' hb').trans (h2 b' hb'), vs', h5, by rw [h6]; simp, fun i => ?_⟩
    · exact h3.trans (by simp)
    · rw [h7 i]
      simp at hle
      by_cases h8 : off + 1 ≤ i ∧ i < off + 1 + r.length
      · rw [if_pos h8, if_pos (by simp; omega)]
        have : i - off = (i - (off + 1)) + 1 := by omega
        rw [this]; rfl
      · rw [if_neg h8]
        by_cases h9 : i = off
        · subst h9
          rw [if_pos (by simp)]
          simp [Array.getElem?_setIfInBounds]
          omega
        · rw [Array.getElem?_setIfInBounds_ne (by omega), if_neg (by simp; omega)]

theorem env_setCells (b : Nat) : ∀ (news : List Value) (off : Nat) (w : World), (w.setCells b off news).os = w.os ∧ (w.setCells b off news).output = w.output
  | [], _, _ => ⟨rfl, rfl⟩
  | v :: r, off, w => env_setCells b r (off + 1) (w.setCell ⟨b, off, none⟩ v)

section
variable {P : Program} {B : Nat} {g : G} {lb : Nat → Option Nat} {a : Act} {w : World} {X : St} {o : Oper} {esc : List Nat}

theorem repCs_new {g : G} {w : World} {cs new : List Cell} {vs vs' : Array Value} {nv : Array Value} {off : Nat} (hr : RepCs g w cs vs) (hn : RepCs g w new nv) (h : off + new.length ≤ cs.length) (hs : vs'.size = vs.size)
    (hget : ∀ i, vs'[i]? = if off ≤ i ∧ i < off + nv.toList.length then nv.toList[i - off]? else vs[i]?) : RepCs g w (setAt cs off new) vs' := by
  refine ⟨by rw [setAt_length _ _ _ h, hs]; exact hr.1, fun i c v hc hv => ?_⟩
  rw [setAt_get _ _ _ _ h] at hc
  rw [hget i] at hv
  have hnl := hn.1
  by_cases h3 : off ≤ i ∧ i < off + new.length
  · rw [if_pos h3] at hc
    rw [if_pos (by simp; omega)] at hv
    exact hn.2 (i - off) c v hc (by simpa using hv)
  · rw [if_neg h3] at hc
    rw [if_neg (by simp; omega)] at hv
    exact hr.2 i c v hc hv

/-- A store into a block that isn't frozen. -/
theorem run_storeAt {t : TypeId} {b off : Nat} {v : Value} {vs : Array Value} {T : TypeId} (hb : w.heap[b]? = some (.cells vs T (0, 0))) (hs : sz? P t = some v.cells.size) (hle : off + v.cells.size ≤ vs.size) (h1 : ∀ u ∈ v.cells.toList, one u = true) :
    (Instr.storeAt t (.pointer (some ⟨b, off, none⟩)) v).run P w = .ok () (w.setCells b off v.cells.toList) := by
  have hc : ∀ j, j < v.cells.toList.length → (w.cell? ⟨b, off + j, none⟩).isSome = true := fun j hj => by
    simp at hj
    simp [World.cell?, hb]; omega
  have hf : ∀ j, j < v.cells.toList.length → w.frozen? ⟨b, off + j, none⟩ = false := fun j hj => by
    simp [World.frozen?, hb]
  have := run_storeCells_cells (P := P) b off v.cells.toList 0 w (by simpa using hc) (by simpa using hf) h1
  simp only [Nat.add_zero] at this
  simp [Instr.storeAt, Instr.sureAddr, storeVar, run_size hs, this]

theorem RepCs.ones {cs : List Cell} {vs : Array Value} (h : RepCs g w cs vs) : ∀ u ∈ vs.toList, one u = true := fun u hu => by
  obtain ⟨i, hi, rfl⟩ := List.getElem_of_mem hu
  have h1 : i < vs.size := by simpa using hi
  have h2 : i < cs.length := by rw [h.1]; exact h1
  exact (h.2 i cs[i] _ (by simp [h2]) (by simp [h1])).2

/-- A block of the call's own is turned. -/
theorem inv_poke {σ : Store} {π : Toks} (h : Inv g w σ π) {b : Nat} (hb : g.kind b = .none) {w' : World} (hsz : w'.heap.size = w.heap.size) (hsame : ∀ b', b' ≠ b → w'.heap[b']? = w.heap[b']?) (henv : w'.os = w.os ∧ w'.output = w.output) :
    Inv g w' σ π ∧ ∀ B, B ≤ b → Ext B g w g w' := by
  have hne : ∀ b', g.kind b' ≠ .none → b' ≠ b := fun b' h1 h2 => h1 (h2 ▸ hb)
  have hext : ∀ B, B ≤ b → Ext B g w g w' := fun B hB => ⟨by omega, fun b' h1 h2 => ⟨hsame b' (by omega), h2⟩, fun b' m n h1 => ⟨m, Nat.le_refl _, h1, fun i _ => cell_of_heap (hsame b' (hne b' (by rw [h1]; simp))) i⟩, fun _ h => h, fun _ _ h => h, fun _ _ h => h, henv, fun b' m n h1 c T fr hc => ⟨c, (hsame b' (hne b' (by rw [h1]; simp))).trans hc, rfl⟩⟩
  refine ⟨{ size := fun b' h1 => by rw [hsz]; exact h.size b' h1, fresh := h.fresh, objs := fun l ob hl => ?_, inj := h.inj, arrs := fun b' m n h1 => ?_, toks := h.toks, tinj := h.tinj }, hext⟩
  · obtain ⟨b', h1, h2, h3⟩ := h.objs l ob hl
    exact ⟨b', h1, h2, h3.ext (hext 0 (Nat.zero_le _)) (hsame b' (hne b' (by rw [h2]; simp)))⟩
  · obtain ⟨h2, c, T, fr, h3, h4, h5⟩ := h.arrs b' m n h1
    have hs := hsame b' (hne b' (by rw [h1]; simp))
    exact ⟨h2, c, T, fr, hs.trans h3, h4, fun i h6 h7 => (frozen_of_heap hs i).trans (h5 i h6 h7)⟩

/-- A shared variable, or map, is turned. -/
theorem inv_pokeObj {σ : Store} {π : Toks} (h : Inv g w σ π) {l b : Nat} {ob ob' : Obj} (hl : σ l = some ob) (hlb : g.loc l = some b) {w' : World} (hsz : w'.heap.size = w.heap.size) (hsame : ∀ b', b' ≠ b → w'.heap[b']? = w.heap[b']?)
    (henv : w'.os = w.os ∧ w'.output = w.output) (hob : RepObj g w b ob → RepObj g w' b ob') : Inv g w' (upd σ l (some ob')) π ∧ ∀ B, Ext B g w g w' := by
  obtain ⟨b0, h1, hk, h3⟩ := h.objs l ob hl
  rw [hlb] at h1; cases h1
  have hne : ∀ b', g.kind b' ≠ .obj → b' ≠ b := fun b' h1 h2 => h1 (h2 ▸ hk)
  have hext : ∀ B, Ext B g w g w' := fun B => ⟨by omega, fun b' h1 h2 => ⟨hsame b' (hne b' (by rw [h2]; simp)), h2⟩, fun b' m n h1 => ⟨m, Nat.le_refl _, h1, fun i _ => cell_of_heap (hsame b' (hne b' (by rw [h1]; simp))) i⟩, fun _ h => h, fun _ _ h => h, fun _ _ h => h, henv, fun b' m n h1 c T fr hc => ⟨c, (hsame b' (hne b' (by rw [h1]; simp))).trans hc, rfl⟩⟩
  have hsome : ∀ l', upd σ l (some ob') l' ≠ none ↔ σ l' ≠ none := fun l' => by
    by_cases e : l' = l
    · subst e; simp [upd_same, hl]
    · rw [upd_ne _ _ e]
  refine ⟨{ size := fun b' h1 => by rw [hsz]; exact h.size b' h1, fresh := ?_, objs := fun l' ob'' hl' => ?_, inj := fun l1 l2 b1 h1 h2 => h.inj l1 l2 b1 ((hsome l1).1 h1) ((hsome l2).1 h2), arrs := fun b' m n h1 => ?_, toks := h.toks, tinj := h.tinj }, hext⟩
  · obtain ⟨n, hn⟩ := h.fresh
    refine ⟨n, fun l' hl' => ⟨(hn l' hl').1, (hn l' hl').2.1, ?_, (hn l' hl').2.2.2⟩⟩
    have := (hn l' hl').2.2.1
    exact Classical.byContradiction fun hc => (hsome l').1 hc this
  · by_cases e : l' = l
    · subst e
      rw [upd_same] at hl'; cases hl'
      exact ⟨b, hlb, hk, hob h3⟩
    · rw [upd_ne _ _ e] at hl'
      obtain ⟨b', h4, h5, h6⟩ := h.objs l' ob'' hl'
      refine ⟨b', h4, h5, h6.ext (hext 0) (hsame b' (fun hbb => e ?_))⟩
      subst hbb
      exact h.inj l' l b' (by rw [hl']; simp) (by rw [hl]; simp) h4 hlb
  · obtain ⟨h2, c, T, fr, h3, h4, h5⟩ := h.arrs b' m n h1
    have hs := hsame b' (hne b' (by rw [h1]; simp))
    exact ⟨h2, c, T, fr, hs.trans h3, h4, fun i h6 h7 => (frozen_of_heap hs i).trans (h5 i h6 h7)⟩

/-- A new shared variable, or map. -/
theorem inv_newObj {σ : Store} {π : Toks} (h : Inv g w σ π) {l : Nat} (hl : σ l = none) (hgl : g.loc l = none) (o : Go.Obj) {ob : Obj} (ho : ∀ g' w', w'.heap[w.heap.size]? = some o → Ext w.heap.size g w g' w' → RepObj g' w' w.heap.size ob) :
    ∃ g', g'.loc l = some w.heap.size ∧ Inv g' (w.alloc o) (upd σ l (some ob)) π ∧ Ext w.heap.size g w g' (w.alloc o) := by
  have hold : ∀ b, b < w.heap.size → (w.alloc o).heap[b]? = w.heap[b]? := fun b hb => heap_alloc_lt hb
  have hk0 : g.kind w.heap.size = .none := by
    cases hk : g.kind w.heap.size with
    | none => rfl
    | _ => have := h.size w.heap.size (by rw [hk]; simp); omega
  let g' : G := { kind := upd g.kind w.heap.size .obj, loc := upd g.loc l (some w.heap.size), tok := g.tok }
  have hkind : ∀ b, g.kind b ≠ .none → upd g.kind w.heap.size .obj b = g.kind b := fun b hb => upd_ne _ _ (by have := h.size b hb; omega)
  have hlt : ∀ b, g.kind b ≠ .none → b < w.heap.size := h.size
  have hext : Ext w.heap.size g w g' (w.alloc o) := by
    refine ⟨by simp, fun b hb hbk => ⟨hold b hb, ?_⟩, fun b m n hb => ⟨m, Nat.le_refl _, ?_, fun i _ => ?_⟩, fun b hb => ?_, fun l' b hl' => ?_, fun _ _ h => h, ⟨rfl, rfl⟩, fun b m n hb c T fr hc => ⟨c, (hold b (hlt b (by rw [hb]; simp))).trans hc, rfl⟩⟩
    · show upd g.kind w.heap.size .obj b = _
      rw [upd_ne _ _ (by omega), hbk]
    · show upd g.kind w.heap.size .obj b = _
      rw [hkind b (by rw [hb]; simp), hb]
    · exact cell_of_heap (hold b (hlt b (by rw [hb]; simp))) i
    · show upd g.kind w.heap.size .obj b = _
      rw [hkind b (by rw [hb]; simp), hb]
    · show upd g.loc l (some w.heap.size) l' = _
      rw [upd_ne _ _ (fun e => by rw [e, hgl] at hl'; cases hl'), hl']
  refine ⟨g', upd_same _ _ _, ?_, hext⟩
  have hlb : ∀ l' b, l' ≠ l → upd g.loc l (some w.heap.size) l' = some b → g.loc l' = some b := fun l' b e h1 => by rwa [upd_ne _ _ e] at h1
  refine { size := fun b hb => ?_, fresh := ?_, objs := fun l' ob' hl' => ?_, inj := fun l1 l2 b h1 h2 h3 h4 => ?_, arrs := fun b m n hb => ?_, toks := fun t s ht => ?_, tinj := h.tinj }
  · by_cases e : b = w.heap.size
    · subst e; simp
    · have : g.kind b ≠ .none := by
        have hb' : upd g.kind w.heap.size .obj b ≠ .none := hb
        rwa [upd_ne _ _ e] at hb'
      have := hlt b this
      simp; omega
  · obtain ⟨n, hn⟩ := h.fresh
    refine ⟨max n (l + 1), fun l' hl' => ?_⟩
    have h1 := hn l' (by omega)
    have h2 : l' ≠ l := by omega
    exact ⟨by show upd g.loc l _ l' = none; rw [upd_ne _ _ h2]; exact h1.1, h1.2.1, by rw [upd_ne _ _ h2]; exact h1.2.2.1, h1.2.2.2⟩
  · by_cases e : l' = l
    · subst e
      rw [upd_same] at hl'; cases hl'
      exact ⟨w.heap.size, upd_same _ _ _, upd_same _ _ _, ho g' _ heap_alloc_new hext⟩
    · rw [upd_ne _ _ e] at hl'
      obtain ⟨b, h1, h2, h3⟩ := h.objs l' ob' hl'
      exact ⟨b, hext.loc l' b h1, hext.obj b h2, h3.ext hext (hold b (hlt b (by rw [h2]; simp)))⟩
  · have key : ∀ l', l' ≠ l → upd σ l (some ob) l' ≠ none → g'.loc l' = some b → b < w.heap.size ∧ g.loc l' = some b ∧ σ l' ≠ none := fun l' e h1 h2 => by
      rw [upd_ne _ _ e] at h1
      have h3 := hlb l' b e h2
      cases hs : σ l' with
      | none => exact absurd hs h1
      | some ob' =>
        obtain ⟨b', h4, h5, _⟩ := h.objs l' ob' hs
        rw [h3] at h4; cases h4
        exact ⟨hlt b (by rw [h5]; simp), h3, by simp⟩
    by_cases e1 : l1 = l
    · by_cases e2 : l2 = l
      · rw [e1, e2]
      · obtain ⟨h5, _⟩ := key l2 e2 h2 h4
        subst e1
        have : g'.loc l1 = some w.heap.size := upd_same _ _ _
        rw [this] at h3; cases h3; omega
    · obtain ⟨h5, h6, h7⟩ := key l1 e1 h1 h3
      by_cases e2 : l2 = l
      · subst e2
        have : g'.loc l2 = some w.heap.size := upd_same _ _ _
        rw [this] at h4; cases h4; omega
      · obtain ⟨_, h8, h9⟩ := key l2 e2 h2 h4
        exact h.inj l1 l2 b h7 h9 h6 h8
  · have hne : b ≠ w.heap.size := fun e => by
      have hb' : upd g.kind w.heap.size .obj b = .arr m n := hb
      subst e
      rw [upd_same] at hb'; cases hb'
    have hb' : g.kind b = .arr m n := by
      have hb' : upd g.kind w.heap.size .obj b = .arr m n := hb
      rwa [upd_ne _ _ hne] at hb'
    obtain ⟨h2, c, T, fr, h3, h4, h5⟩ := h.arrs b m n hb'
    have hbl := hold b (hlt b (by rw [hb']; simp))
    exact ⟨h2, c, T, fr, hbl.trans h3, h4, fun i h6 h7 => (frozen_of_heap hbl i).trans (h5 i h6 h7)⟩
  · rcases h.toks t s ht with h1 | ⟨b, p, m, n, h1, h2, h3⟩
    · exact .inl h1
    · exact .inr ⟨b, p, m, n, h1, (hkind b (by rw [h2]; simp)).trans h2, h3⟩
end
end Go.Lf
