/- A small logic over the kit's calls. Part 10: append. -/
import Derived.Test.YtmdjomilicoobaaLf9
namespace Go.Lf
open Go

/-- What append comes to. -/
def Appended (P : Program) (g : G) (w : World) (σ : Store) (π : Toks) (s : Nat) (zs : List V) (r : Result Value) : Prop :=
  ∃ v w' g' t', r = .ok v w' ∧ Ext w.heap.size g w g' w' ∧ π t' = none ∧ Inv g' w' σ (upd π t' (some s)) ∧ Rep g' w' (.sl zs) v ∧ Fits g' (.tok t') v

section
variable {P : Program} {g : G} {w : World} {σ : Store} {π : Toks}

theorem size_zeroCells (zero : Array Value) (n : Nat) : (Builtin.zeroCells zero n).size = n * zero.size := by
  simp [Builtin.zeroCells]

/-- There is no room: a new array. -/
theorem append_new {t tx ty e : TypeId} {i : TypeInfo} {z : Value} {s : Nat} (ht : P.underlying t = some (.slice e)) (hi : P.info? e = some i) (hz : i.zero = some z) (hsz : i.size = s) (hzs : z.cells.size = s) (hs0 : 0 < s) (hby : 0 < i.bytes)
    (hI : Inv g w σ π) {es xs : List V} {x y : Value} (hx : Rep g w (.sl es) x) (hes : ∀ e ∈ es, e.cells.length = s) {news : List Value} (hsrc : Src P s tx y xs.length news w) (hcov : Cov g w s xs news)
    (hb : (es.length + xs.length) * i.bytes ≤ 140737488355328) {base : Option Addr} {cap : Nat} (hxe : x = .slice base es.length cap) (hcap : cap < es.length + xs.length) :
    Appended P g w σ π s (es ++ xs) ((Builtin.append_ #[t, tx] ty #[x, y]).run P w) := by
  obtain ⟨us, hu1, hu2⟩ := Rep.cov hx hs0 hes
  have hnb : (es.length + xs.length) ≤ 140737488355328 := Nat.le_trans (Nat.le_mul_of_pos_right _ hby) hb
  have hold : (Builtin.firstCells i.size es.length (.slice base es.length cap)).run P w.drew = .ok us.toArray w.drew := by
    rcases hu2 with ⟨h1, h2⟩ | ⟨b, off, cap', m, n, h1, h2, h3, h4, h5⟩ | ⟨ad, cp, h1, h2⟩
    · subst h2
      rw [hxe] at h1
      simp at h1
      have := hu1.len
      simp at this
      simp [Builtin.firstCells, this, h1.1]
    · rw [hxe] at h1; cases h1
      have hl : us.length = es.length * i.size := by rw [hu1.len, hsz]
      simp only [Builtin.firstCells]
      rw [← hl]
      exact run_loadCells_list (P := P) w.drew ⟨b, off, none⟩ us (fun j v hv => by rw [Addr.add_mid]; simpa using h5 j v hv)
    · subst h2
      rw [hxe] at h1
      simp at h1
      have hl := hu1.len
      simp at hl
      subst hl
      rw [h1.1]
      have := run_loadCells_list (P := P) w.drew ad [] (fun j v hv => by simp at hv)
      simp only [Builtin.firstCells, List.length_nil, Nat.zero_mul] at this ⊢
      exact this
  have hnc : Builtin.nextslicecap (es.length + xs.length) cap * i.bytes ≤ 281474976710656 := by
    have h1 := nextslicecap_le (need := es.length + xs.length) (old := cap) hcap
    have h2 : Builtin.nextslicecap (es.length + xs.length) cap * i.bytes ≤ 2 * (es.length + xs.length) * i.bytes := Nat.mul_le_mul_right _ h1
    rw [Nat.mul_assoc] at h2
    omega
  have hrun := run_append_grow_src (P := P) w t tx ty e i z ht hi hz base es.length cap us hold y xs.length news (by rw [hsz]; exact hsrc) hcap (by omega) hnc
  let nc := grownCap w (es.length + xs.length) cap e
  have hge : es.length + xs.length ≤ nc := grownCap_ge w _ _ _
  let arr : Array Value := (us ++ news).toArray ++ Builtin.zeroCells z.cells (nc - (es.length + xs.length))
  have hal : (us ++ news).length = (es.length + xs.length) * s := by rw [List.length_append, hu1.len, hcov.len, Nat.add_mul]
  have hasz : arr.size = nc * s := by
    simp only [arr, Array.size_append, size_zeroCells, List.size_toArray, hal, hzs]
    rw [← Nat.add_mul]
    congr 1
    omega
  have hmle : (es.length + xs.length) * s ≤ arr.size := by rw [hasz]; exact Nat.mul_le_mul_right s hge
  obtain ⟨h1, h2⟩ := inv_alloc hI (.cells arr e (0, 0)) (.arr ((es.length + xs.length) * s) arr.size) (.inr ⟨arr, e, (0, 0), (es.length + xs.length) * s, rfl, rfl, hmle, fun i _ _ _ => by simp⟩) (w' := w.drew.alloc (.cells arr e)) rfl ⟨rfl, rfl⟩
  obtain ⟨t', _, ht1, ht2⟩ := hI.freshTok 0
  have hk : upd g.kind w.heap.size (.arr ((es.length + xs.length) * s) arr.size) w.heap.size = .arr ((es.length + xs.length) * s) arr.size := upd_same _ _ _
  have hnot : ∀ t' p' s', π t' ≠ none → g.tok t' ≠ some (w.heap.size, p', s') := fun t'' p' s' h3 h4 => by
    cases h5 : π t'' with
    | none => exact h3 h5
    | some s'' =>
      rcases hI.toks t'' s'' h5 with h6 | ⟨b, p, m, n, h6, h7, _⟩
      · rw [h6] at h4; cases h4
      · rw [h6] at h4; cases h4
        have := hI.size w.heap.size (by rw [h7]; simp)
        omega
  have hI2 := h1.addTok (t := t') ht2 s (some (w.heap.size, (es.length + xs.length) * s, s)) (.inr ⟨_, _, _, _, rfl, hk, Nat.le_refl _, hnot⟩)
  have hext := h2.addTok ht2 (some (w.heap.size, (es.length + xs.length) * s, s))
  have hcell : ∀ (j : Nat) (u : Value), (us ++ news)[j]? = some u → (w.drew.alloc (.cells arr e)).cell? ⟨w.heap.size, 0 + j, none⟩ = some u := fun j u hj => by
    have hjl : j < (us ++ news).length := (List.getElem?_eq_some_iff.1 hj).1
    have : (w.drew.alloc (.cells arr e)).heap[w.heap.size]? = some (.cells arr e (0, 0)) := heap_alloc_new (w := w.drew)
    simp only [World.cell?, this, Nat.zero_add]
    have h9 : arr[j]? = (us ++ news).toArray[j]? := Array.getElem?_append_left (by simpa using hjl)
    have h10 : (us ++ news).toArray[j]? = some u := by rw [List.getElem?_toArray]; exact hj
    simp only [Option.isSome_none, Bool.false_eq_true, if_false, h9, h10]
  have hrep := ((hu1.append hcov).ext hext).toRep (b := w.heap.size) (off := 0) (cap := nc) (m := (es.length + xs.length) * s) (n := arr.size) hk (by simp) (by simp; omega) hcell
  refine ⟨_, _, _, t', by rw [hxe]; exact hrun, hext, ht1, hI2, by simpa [arr, nc] using hrep, .inr ⟨w.heap.size, 0, es.length + xs.length, nc, s, (es.length + xs.length) * s, arr.size, rfl, by simp [upd_same], hk, by rw [hasz]; simp, hge⟩⟩

/-- A token allows to append. -/
theorem append_tok {t tx ty e : TypeId} {i : TypeInfo} {z : Value} {s tk : Nat} (ht : P.underlying t = some (.slice e)) (hi : P.info? e = some i) (hz : i.zero = some z) (hsz : i.size = s) (hzs : z.cells.size = s) (hs0 : 0 < s) (hby : 0 < i.bytes)
    (hI : Inv g w σ π) {es xs : List V} {x y : Value} (hx : Rep g w (.sl es) x) (hes : ∀ e ∈ es, e.cells.length = s) {news : List Value} (hsrc : Src P s tx y xs.length news w) (hcov : Cov g w s xs news)
    (hb : (es.length + xs.length) * i.bytes ≤ 140737488355328) (hf : Fits g (.tok tk) x) (hp : π tk = some s) :
    Appended P g w σ (upd π tk none) s (es ++ xs) ((Builtin.append_ #[t, tx] ty #[x, y]).run P w) := by
  have hI1 := hI.close tk
  obtain ⟨us, hu1, hu2⟩ := Rep.cov hx hs0 hes
  have hu2 : x = .slice none 0 0 ∧ es = [] ∨ ∃ b off cap m n, x = .slice (some ⟨b, off, none⟩) es.length cap ∧ g.kind b = .arr m n ∧ (∀ j, j < es.length * s → off + j < m) ∧ es.length ≤ cap ∧
      ∀ (j : Nat) (u : Value), us[j]? = some u → w.cell? ⟨b, off + j, none⟩ = some u := by
    rcases hu2 with h1 | ⟨b, off, cap, m, n, h1, h2, h3, h4, h5⟩ | ⟨ad, cp, h1, h2⟩
    · exact .inl h1
    · exact .inr ⟨b, off, cap, m, n, h1, h2, fun j hj => by omega, h4, h5⟩
    · subst h2
      rcases hf with hf | ⟨b', off', n', cap', s', m', N, hf1, hf2, hf3, hf4, hf5⟩
      · rw [h1] at hf; cases hf
      · rw [h1] at hf1; cases hf1
        have hl := hu1.len
        simp at hl
        subst hl
        exact .inr ⟨_, _, _, _, _, h1, hf3, fun j hj => by simp at hj, Nat.zero_le _, fun j u hj => by simp at hj⟩
  rcases hu2 with ⟨rfl, rfl⟩ | ⟨b, off, cap, m, n, h1, h2, h3, h4, h5⟩
  · by_cases hn : xs = []
    · subst hn
      have hnn : news = [] := by have := hcov.len; simpa using this
      subst hnn
      have hrun := run_append_nothing (P := P) w t tx ty e i ht hi none 0 0 (Nat.le_refl _) y (by rw [hsz]; exact hsrc)
      obtain ⟨t', _, ht1, ht2⟩ := hI1.freshTok 0
      exact ⟨_, w, _, t', hrun, (Ext.refl _ g w).addTok ht2 none, ht1, hI1.addTok ht2 s none (.inl rfl), by simpa using Rep.nil, .inl rfl⟩
    · have : 0 < xs.length := List.length_pos_iff.2 hn
      exact append_new ht hi hz hsz hzs hs0 hby hI1 hx hes hsrc hcov hb (base := none) (cap := 0) rfl (by simp; omega)
  · subst h1
    rcases hf with hf | ⟨b', off', n', cap', s', m', N, hf1, hf2, hf3, hf4, hf5⟩
    · cases hf
    · cases hf1
      rw [h2] at hf3; cases hf3
      have hss : s' = s := by
        rcases hI.toks tk s hp with h6 | ⟨b', p, m', n', h6, _, _⟩
        · rw [hf2] at h6; cases h6
        · rw [hf2] at h6; cases h6; rfl
      subst hss
      have hmp : m ≤ off + es.length * s' := by
        rcases hI.toks tk s' hp with h6 | ⟨b', p, m', n', h6, h7, h8⟩
        · rw [hf2] at h6; cases h6
        · rw [hf2] at h6; cases h6
          rw [h2] at h7; cases h7
          exact h8
      have hno : ∀ t' p' s'', upd π tk none t' ≠ none → g.tok t' ≠ some (b, p', s'') := fun t' p' s'' h6 h7 => by
        have hne : t' ≠ tk := fun e => by subst e; exact h6 (upd_same _ _ _)
        rw [upd_ne _ _ hne] at h6
        exact hne (hI.tinj t' tk b p' s'' _ _ h6 (by rw [hp]; simp) h7 hf2)
      by_cases hroom : es.length + xs.length ≤ cap
      · have hnl : news.length = xs.length * s' := hcov.len
        have hle : off + es.length * s' + news.length ≤ n := by
          rw [hnl]
          have : (es.length + xs.length) * s' ≤ cap * s' := Nat.mul_le_mul_right s' hroom
          rw [Nat.add_mul] at this
          omega
        obtain ⟨g1, g2, g3⟩ := inv_grow hI1 h2 hmp news hle hno
        obtain ⟨hmn, c, T, fr, hc1, hc2, hc3⟩ := hI.arrs b m n h2
        have hrun := run_append_room_src (P := P) w t tx ty e i ht hi b off es.length cap y xs.length news (by rw [hsz]; exact hsrc) hroom (fun j hj => by
            rw [hsz]
            simp [World.cell?, hc1]; omega) (fun j hj => by rw [hsz]; exact hc3 _ (by omega) (by omega))
        rw [hsz] at hrun
        obtain ⟨t', hne, ht1, ht2⟩ := hI1.freshTok tk
        have hk : upd g.kind b (.arr (off + es.length * s' + news.length) n) b = .arr (off + es.length * s' + news.length) n := upd_same _ _ _
        have hI2 := g1.addTok (t := t') ht2 s' (some (b, off + es.length * s' + news.length, s')) (.inr ⟨_, _, _, _, rfl, hk, Nat.le_refl _, hno⟩)
        have hext := (g2 w.heap.size).addTok ht2 (some (b, off + es.length * s' + news.length, s'))
        have hcell : ∀ (j : Nat) (u : Value), (us ++ news)[j]? = some u → (w.setCells b (off + es.length * s') news).cell? ⟨b, off + j, none⟩ = some u := fun j u hj => by
          rw [List.getElem?_append] at hj
          split at hj
          · rename_i hlt
            obtain ⟨_, _, _, hh⟩ := (g2 0).arr b m n h2
            rw [hh _ (by rw [hu1.len] at hlt; exact h3 _ hlt)]
            exact h5 j u hj
          · rename_i hge
            have := g3 _ u hj
            rw [hu1.len] at this hge
            rw [show off + j = off + es.length * s' + (j - es.length * s') by omega]
            exact this
        have hrep := ((hu1.append hcov).ext hext).toRep (b := b) (off := off) (cap := cap) (m := off + es.length * s' + news.length) (n := n) hk (by simp [Nat.add_mul, hnl]; omega) (by simpa using hroom) hcell
        refine ⟨_, _, _, t', hrun, hext, ht1, hI2, by simpa using hrep, .inr ⟨b, off, es.length + xs.length, cap, s', _, n, rfl, ?_, hk, hf4, hroom⟩⟩
        show upd g.tok t' _ t' = _
        rw [upd_same, hnl, Nat.add_mul, Nat.add_assoc]
      · exact append_new ht hi hz hsz hzs hs0 hby hI1 hx hes hsrc hcov hb (base := _) (cap := cap) rfl (by omega)

/-- Nothing is appended. -/
theorem append_none {t tx ty e : TypeId} {i : TypeInfo} {s : Nat} (ht : P.underlying t = some (.slice e)) (hi : P.info? e = some i) (hsz : i.size = s) {es : List V} {x y : Value} (hx : Rep g w (.sl es) x)
    (hsrc : Src P s tx y 0 [] w) : (Builtin.append_ #[t, tx] ty #[x, y]).run P w = .ok x w := by
  cases hx with
  | empty ad cap => exact run_append_nothing (P := P) w t tx ty e i ht hi _ _ cap (Nat.zero_le _) y (by rw [hsz]; exact hsrc)
  | nil => exact run_append_nothing (P := P) w t tx ty e i ht hi none 0 0 (Nat.le_refl _) y (by rw [hsz]; exact hsrc)
  | sl _ b off cap s' m n f hk hm hcap hs hc h => exact run_append_nothing (P := P) w t tx ty e i ht hi _ _ cap hcap y (by rw [hsz]; exact hsrc)

/-- A slice that is nil, or whose capacity is its length: a new array. -/
theorem append_full {t tx ty e : TypeId} {i : TypeInfo} {z : Value} {s : Nat} (ht : P.underlying t = some (.slice e)) (hi : P.info? e = some i) (hz : i.zero = some z) (hsz : i.size = s) (hzs : z.cells.size = s) (hs0 : 0 < s) (hby : 0 < i.bytes)
    (hI : Inv g w σ π) {es xs : List V} {x y : Value} (hx : Rep g w (.sl es) x) (hes : ∀ e ∈ es, e.cells.length = s) {news : List Value} (hsrc : Src P s tx y xs.length news w) (hcov : Cov g w s xs news)
    (hb : (es.length + xs.length) * i.bytes ≤ 140737488355328) (hf : Fits g .full x) (hne : xs ≠ []) :
    Appended P g w σ π s (es ++ xs) ((Builtin.append_ #[t, tx] ty #[x, y]).run P w) := by
  have : 0 < xs.length := List.length_pos_iff.2 hne
  have key : ∃ base, x = .slice base es.length es.length := by
    rcases hf with hf | ⟨ad, n, hf⟩
    · subst hf
      cases hx
      exact ⟨none, rfl⟩
    · subst hf
      cases hx <;> exact ⟨_, rfl⟩
  obtain ⟨base, hxe⟩ := key
  exact append_new ht hi hz hsz hzs hs0 hby hI hx hes hsrc hcov hb hxe (by omega)

/-- Where the new ones come from. -/
theorem src_slice {s : Nat} (hs0 : 0 < s) {tx e' : TypeId} (hk : P.underlying tx = some (.slice e')) {xs : List V} {y : Value} (hy : Rep g w (.sl xs) y) (hxs : ∀ e ∈ xs, e.cells.length = s) :
    ∃ news, Src P s tx y xs.length news w ∧ Cov g w s xs news := by
  obtain ⟨us, hu1, hu2⟩ := Rep.cov hy hs0 hxs
  rcases hu2 with ⟨rfl, rfl⟩ | ⟨b, off, cap, m, n, rfl, h2, h3, h4, h5⟩ | ⟨ad, cap, rfl, rfl⟩
  · have hnn : us = [] := by have := hu1.len; simpa using this
    subst hnn
    exact ⟨[], Src.ofNil (P := P) w hk 0, hu1⟩
  · exact ⟨us, Src.ofSlice (P := P) w hk ⟨b, off, none⟩ xs.length cap us hu1.len (fun j u hj => by rw [Addr.add_mid]; exact h5 j u hj) hu1.one, hu1⟩
  · have hnn : us = [] := by have := hu1.len; simpa using this
    subst hnn
    exact ⟨[], Src.ofSlice (P := P) w hk ad 0 cap [] (by simp) (fun j u hj => by simp at hj) hu1.one, hu1⟩

def bytesV (s : ByteArray) : List V := s.data.toList.map fun b => V.raw (.int .u8 b.toNat)

theorem src_string {tx : TypeId} (hk : P.underlying tx = some .string) (s : ByteArray) : ∃ news, Src P 1 tx (.string s) (bytesV s).length news w ∧ Cov g w 1 (bytesV s) news := by
  have hl : (bytesV s).length = s.size := by unfold bytesV; rw [List.length_map, Array.length_toList]; rfl
  refine ⟨byteCells s, by rw [hl]; exact Src.ofString (P := P) w hk s, ⟨by rw [byteCells_length, hl, Nat.mul_one], fun e he => ?_, (Src.ofString (P := P) w hk s).one, fun i e j c hi hj => ?_⟩⟩
  · obtain ⟨b, _, rfl⟩ := List.mem_map.1 he; rfl
  · simp only [bytesV, List.getElem?_map, Option.map_eq_some_iff] at hi
    obtain ⟨b, hb, rfl⟩ := hi
    cases j with
    | zero =>
      simp [V.cells] at hj
      subst hj
      refine ⟨.int .u8 b.toNat, ?_, .raw _⟩
      simp [byteCells, List.getElem?_map, hb]
    | succ j => simp [V.cells] at hj
end
end Go.Lf
