/- A small logic over the kit's calls. Part 9: slices that grow. -/
import Derived.Test.YtmdjomilicoobaaLf8
namespace Go.Lf
open Go

/-- These cells are those of the elements. -/
structure Cov (g : G) (w : World) (s : Nat) (es : List V) (us : List Value) : Prop where
  len : us.length = es.length * s
  size : ∀ e ∈ es, e.cells.length = s
  one : ∀ u ∈ us, one u = true
  rep : ∀ (i : Nat) (e : V) (j : Nat) (c : V), es[i]? = some e → e.cells[j]? = some c → ∃ u, us[i * s + j]? = some u ∧ Rep g w c u

theorem Cov.ext {B : Nat} {g g' : G} {w w' : World} (h : Ext B g w g' w') {s : Nat} {es : List V} {us : List Value} (hc : Cov g w s es us) : Cov g' w' s es us :=
  ⟨hc.len, hc.size, hc.one, fun i e j c h1 h2 => let ⟨u, h3, h4⟩ := hc.rep i e j c h1 h2; ⟨u, h3, h4.ext h⟩⟩

theorem Cov.nil (g : G) (w : World) (s : Nat) : Cov g w s [] [] :=
  ⟨by simp, fun e h => by simp at h, fun u h => by simp at h, fun i e j c h => by simp at h⟩

theorem Cov.append {g : G} {w : World} {s : Nat} {es xs : List V} {us vs : List Value} (h : Cov g w s es us) (h' : Cov g w s xs vs) : Cov g w s (es ++ xs) (us ++ vs) where
  len := by rw [List.length_append, List.length_append, h.len, h'.len, Nat.add_mul]
  size e he := by
    rcases List.mem_append.1 he with he | he
    · exact h.size e he
    · exact h'.size e he
  one u hu := by
    rcases List.mem_append.1 hu with hu | hu
    · exact h.one u hu
    · exact h'.one u hu
  rep i e j c hi hj := by
    rw [List.getElem?_append] at hi
    split at hi
    · rename_i hlt
      obtain ⟨u, h1, h2⟩ := h.rep i e j c hi hj
      refine ⟨u, ?_, h2⟩
      rw [List.getElem?_append, if_pos (List.getElem?_eq_some_iff.1 h1).1, h1]
    · rename_i hge
      obtain ⟨u, h1, h2⟩ := h'.rep _ e j c hi hj
      refine ⟨u, ?_, h2⟩
      have hle : es.length * s ≤ i * s := Nat.mul_le_mul_right s (by omega)
      have h3 : (i - es.length) * s = i * s - es.length * s := Nat.sub_mul _ _ _
      rw [List.getElem?_append, if_neg (by rw [h.len]; omega), h.len, ← h1]
      congr 1
      omega

theorem Cov.toRep {g : G} {w : World} {s : Nat} {es : List V} {us : List Value} (h : Cov g w s es us) {b off cap m n : Nat} (hk : g.kind b = .arr m n) (hm : off + es.length * s ≤ m) (hcap : es.length ≤ cap)
    (hc : ∀ (j : Nat) (u : Value), us[j]? = some u → w.cell? ⟨b, off + j, none⟩ = some u) : Rep g w (.sl es) (.slice (some ⟨b, off, none⟩) es.length cap) :=
  .sl es b off cap s m n (fun i j => (us[i * s + j]?).getD undef) hk hm hcap (fun i e hi => h.size e (List.mem_of_getElem? hi))
    (fun i e j c hi hj => by
      obtain ⟨u, h1, h2⟩ := h.rep i e j c hi hj
      rw [Nat.add_assoc, hc _ u h1, h1]
      exact ⟨rfl, h.one u (List.mem_of_getElem? h1)⟩)
    (fun i e j c hi hj => by
      obtain ⟨u, h1, h2⟩ := h.rep i e j c hi hj
      rw [h1]; exact h2)

theorem Rep.cov {g : G} {w : World} {es : List V} {v : Value} (h : Rep g w (.sl es) v) {s : Nat} (hs0 : 0 < s) (hs : ∀ e ∈ es, e.cells.length = s) :
    ∃ us, Cov g w s es us ∧ (v = .slice none 0 0 ∧ es = [] ∨ (∃ b off cap m n, v = .slice (some ⟨b, off, none⟩) es.length cap ∧ g.kind b = .arr m n ∧ off + es.length * s ≤ m ∧ es.length ≤ cap ∧
      (∀ (j : Nat) (u : Value), us[j]? = some u → w.cell? ⟨b, off + j, none⟩ = some u)) ∨ ∃ a cap, v = .slice (some a) 0 cap ∧ es = []) := by
  cases h with
  | nil => exact ⟨[], Cov.nil g w s, .inl ⟨rfl, rfl⟩⟩
  | empty a cap => exact ⟨[], Cov.nil g w s, .inr (.inr ⟨a, cap, rfl, rfl⟩)⟩
  | sl _ b off cap s' m n f hk hm hcap hss hc hr =>
    have hmul : es.length * s' = es.length * s := by
      cases es with
      | nil => simp
      | cons e r => rw [← hss 0 e rfl, hs e (by simp)]
    have hst : ∀ (i : Nat) (e : V), es[i]? = some e → i * s' = i * s := fun i e he => by
      rw [← hss i e he, hs e (List.mem_of_getElem? he)]
    let us : List Value := (List.range (es.length * s)).map fun k => f (k / s) (k % s)
    have hcell : ∀ k, k < es.length * s → w.cell? ⟨b, off + k, none⟩ = some (f (k / s) (k % s)) ∧ one (f (k / s) (k % s)) = true := fun k hk => by
      have hi : k / s < es.length := Nat.div_lt_of_lt_mul (by rwa [Nat.mul_comm])
      have he : es[k / s]? = some es[k / s] := by simp [hi]
      have hl := hs es[k / s] (by simp)
      have hj : k % s < es[k / s].cells.length := by rw [hl]; exact Nat.mod_lt _ hs0
      have := hc (k / s) es[k / s] (k % s) es[k / s].cells[k % s] he (by simp [hj])
      rw [hst _ _ he] at this
      have hdm : k / s * s + k % s = k := by rw [Nat.mul_comm]; exact Nat.div_add_mod k s
      rwa [Nat.add_assoc, hdm] at this
    refine ⟨us, ⟨by simp [us], hs, fun u hu => ?_, fun i e j c hi hj => ?_⟩, .inr (.inl ⟨b, off, cap, m, n, rfl, hk, by omega, hcap, fun j u hj => ?_⟩)⟩
    · obtain ⟨k, hk1, rfl⟩ := List.mem_map.1 hu
      exact (hcell k (by simpa using hk1)).2
    · have hl := hs e (List.mem_of_getElem? hi)
      have hjs : j < s := by rw [← hl]; exact (List.getElem?_eq_some_iff.1 hj).1
      have hil : i < es.length := (List.getElem?_eq_some_iff.1 hi).1
      have h1 : (i + 1) * s ≤ es.length * s := Nat.mul_le_mul_right s hil
      rw [Nat.add_mul, Nat.one_mul] at h1
      have hd : (i * s + j) / s = i := by
        rw [Nat.mul_comm, Nat.mul_add_div hs0, Nat.div_eq_of_lt hjs]; rfl
      have hmod : (i * s + j) % s = j := by
        rw [Nat.mul_comm, Nat.mul_add_mod, Nat.mod_eq_of_lt hjs]
      refine ⟨f i j, ?_, hr i e j c hi hj⟩
      simp only [us, List.getElem?_map, List.getElem?_range (show i * s + j < es.length * s by omega), Option.map_some, hd, hmod]
    · have hjl : j < es.length * s := by
        have := (List.getElem?_eq_some_iff.1 hj).1
        simpa [us] using this
      simp only [us, List.getElem?_map, List.getElem?_range hjl, Option.map_some, Option.some.injEq] at hj
      rw [← hj]
      exact (hcell j hjl).1

section
variable {P : Program} {g : G} {w : World}

theorem Inv.drop {σ σ' : Store} {π π' : Toks} (h : Inv g w σ π) (h1 : ∀ l o, σ' l = some o → σ l = some o) (h2 : ∀ t s, π' t = some s → π t = some s) : Inv g w σ' π' where
  size := h.size
  fresh := by
    obtain ⟨n, hn⟩ := h.fresh
    refine ⟨n, fun l hl => ?_⟩
    obtain ⟨a1, a2, a3, a4⟩ := hn l hl
    refine ⟨a1, a2, ?_, ?_⟩
    · cases e : σ' l with
      | none => rfl
      | some o => rw [h1 l o e] at a3; cases a3
    · cases e : π' l with
      | none => rfl
      | some o => rw [h2 l o e] at a4; cases a4
  objs l o hl := h.objs l o (h1 l o hl)
  inj l l' b hl hl' := by
    refine h.inj l l' b ?_ ?_
    · cases e : σ' l with
      | none => exact absurd e hl
      | some o => rw [h1 l o e]; simp
    · cases e : σ' l' with
      | none => exact absurd e hl'
      | some o => rw [h1 l' o e]; simp
  arrs := h.arrs
  toks t s ht := h.toks t s (h2 t s ht)
  tinj t t' b p s p' s' ht ht' := by
    refine h.tinj t t' b p s p' s' ?_ ?_
    · cases e : π' t with
      | none => exact absurd e ht
      | some o => rw [h2 t o e]; simp
    · cases e : π' t' with
      | none => exact absurd e ht'
      | some o => rw [h2 t' o e]; simp

theorem Inv.close {σ : Store} {π : Toks} (h : Inv g w σ π) (t : Nat) : Inv g w σ (upd π t none) :=
  h.drop (fun _ _ h => h) (fun t' s h1 => by
    by_cases e : t' = t
    · subst e; rw [upd_same] at h1; cases h1
    · rwa [upd_ne _ _ e] at h1)

/-- A token that is fresh. -/
theorem Inv.freshTok {σ : Store} {π : Toks} (h : Inv g w σ π) (t : Nat) : ∃ t', t' ≠ t ∧ π t' = none ∧ g.tok t' = none := by
  obtain ⟨n, hn⟩ := h.fresh
  exact ⟨max n (t + 1), by omega, (hn _ (by omega)).2.2.2, (hn _ (by omega)).2.1⟩

theorem Inv.freshLoc {σ : Store} {π : Toks} (h : Inv g w σ π) : ∃ l, σ l = none ∧ g.loc l = none := by
  obtain ⟨n, hn⟩ := h.fresh
  exact ⟨n, (hn n (Nat.le_refl _)).2.2.1, (hn n (Nat.le_refl _)).1⟩

theorem Ext.addTok {B : Nat} {g' : G} {w' : World} (h : Ext B g w g' w') {t : Nat} (ht : g.tok t = none) (x : Option (Nat × Nat × Nat)) : Ext B g w { g' with tok := upd g'.tok t x } w' :=
  ⟨h.size, h.same, h.arr, h.obj, h.loc, fun t' y h1 => by
    show upd g'.tok t x t' = some y
    rw [upd_ne _ _ (fun e => by rw [e, ht] at h1; cases h1)]
    exact h.tok t' y h1, h.env, h.fix⟩

/-- Another token: of no block; of one that no other open one is of. -/
theorem Inv.addTok {σ : Store} {π : Toks} (h : Inv g w σ π) {t : Nat} (ht : g.tok t = none) (s : Nat) (x : Option (Nat × Nat × Nat))
    (hx : x = none ∨ ∃ b p m n, x = some (b, p, s) ∧ g.kind b = .arr m n ∧ m ≤ p ∧ ∀ t' p' s', π t' ≠ none → g.tok t' ≠ some (b, p', s')) :
    Inv { g with tok := upd g.tok t x } w σ (upd π t (some s)) where
  size := h.size
  fresh := by
    obtain ⟨n, hn⟩ := h.fresh
    refine ⟨max n (t + 1), fun l hl => ?_⟩
    obtain ⟨a1, a2, a3, a4⟩ := hn l (by omega)
    exact ⟨a1, by show upd g.tok t x l = none; rw [upd_ne _ _ (by omega)]; exact a2, a3, by rw [upd_ne _ _ (by omega)]; exact a4⟩
  objs l o hl := by
    obtain ⟨b, h1, h2, h3⟩ := h.objs l o hl
    exact ⟨b, h1, h2, h3.ext ((Ext.refl 0 g w).addTok ht x) rfl⟩
  inj := h.inj
  arrs := h.arrs
  toks t' s' ht' := by
    show upd g.tok t x t' = none ∨ _
    by_cases e : t' = t
    · subst e
      rw [upd_same] at ht'; cases ht'
      rcases hx with hx | ⟨b, p, m, n, h1, h2, h3, _⟩
      · exact .inl (by rw [upd_same, hx])
      · exact .inr ⟨b, p, m, n, by show upd g.tok t' x t' = _; rw [upd_same, h1], h2, h3⟩
    · rw [upd_ne _ _ e] at ht'
      rcases h.toks t' s' ht' with h1 | ⟨b, p, m, n, h1, h2, h3⟩
      · exact .inl (by rw [upd_ne _ _ e, h1])
      · exact .inr ⟨b, p, m, n, by show upd g.tok t x t' = _; rw [upd_ne _ _ e, h1], h2, h3⟩
  tinj t1 t2 b p s1 p' s2 h1 h2 h3 h4 := by
    have h3' : upd g.tok t x t1 = some (b, p, s1) := h3
    have h4' : upd g.tok t x t2 = some (b, p', s2) := h4
    by_cases e1 : t1 = t
    · by_cases e2 : t2 = t
      · rw [e1, e2]
      · exfalso
        subst e1
        rw [upd_same] at h3'
        rw [upd_ne _ _ e2] at h4' h2
        rcases hx with hx | ⟨b', q, m, n, h5, h6, h7, h8⟩
        · rw [hx] at h3'; cases h3'
        · rw [h5] at h3'; cases h3'
          exact h8 t2 _ _ h2 h4'
    · rw [upd_ne _ _ e1] at h3' h1
      by_cases e2 : t2 = t
      · exfalso
        subst e2
        rw [upd_same] at h4'
        rcases hx with hx | ⟨b', q, m, n, h5, h6, h7, h8⟩
        · rw [hx] at h4'; cases h4'
        · rw [h5] at h4'; cases h4'
          exact h8 t1 _ _ h1 h3'
      · rw [upd_ne _ _ e2] at h4' h2
        exact h.tinj t1 t2 b p s1 p' s2 h1 h2 h3' h4'

/-- The cells behind an array's mark are written, and are in use then. -/
theorem inv_grow {σ : Store} {π : Toks} (h : Inv g w σ π) {b p m n : Nat} (hk : g.kind b = .arr m n) (hmp : m ≤ p) (news : List Value) (hn : p + news.length ≤ n)
    (hno : ∀ t' p' s', π t' ≠ none → g.tok t' ≠ some (b, p', s')) :
    Inv { g with kind := upd g.kind b (.arr (p + news.length) n) } (w.setCells b p news) σ π ∧ (∀ B, Ext B g w { g with kind := upd g.kind b (.arr (p + news.length) n) } (w.setCells b p news)) ∧
    ∀ (j : Nat) (u : Value), news[j]? = some u → (w.setCells b p news).cell? ⟨b, p + j, none⟩ = some u := by
  obtain ⟨hmn, c, T, fr, h1, h2, h3⟩ := h.arrs b m n hk
  obtain ⟨e1, e2, vs', e3, e4, e5⟩ := heap_setCells b news p w c T fr h1 (by omega)
  have hkind : ∀ b', b' ≠ b → upd g.kind b (.arr (p + news.length) n) b' = g.kind b' := fun b' hb => upd_ne _ _ hb
  have hext : ∀ B, Ext B g w { g with kind := upd g.kind b (.arr (p + news.length) n) } (w.setCells b p news) := fun B => by
    refine ⟨by omega, fun b' hb' hk' => ?_, fun b' m' n' hk' => ?_, fun b' hk' => ?_, fun _ _ h => h, fun _ _ h => h, env_setCells b news p w, fun b' m' n' hk' c0 T0 fr0 hc0 => ?_⟩
    · have hne : b' ≠ b := fun e => by rw [e, hk] at hk'; cases hk'
      exact ⟨e2 b' hne, (hkind b' hne).trans hk'⟩
    · by_cases e : b' = b
      · subst e
        rw [hk] at hk'; cases hk'
        refine ⟨p + news.length, by omega, upd_same _ _ _, fun i hi => ?_⟩
        simp only [World.cell?, e3, h1]
        have := e5 i
        rw [if_neg (by omega)] at this
        simpa using this
      · exact ⟨m', Nat.le_refl _, (hkind b' e).trans hk', fun i _ => cell_of_heap (e2 b' e) i⟩
    · have hne : b' ≠ b := fun e => by rw [e, hk] at hk'; cases hk'
      exact (hkind b' hne).trans hk'
    · by_cases e : b' = b
      · subst e
        rw [h1] at hc0; cases hc0
        exact ⟨vs', e3, e4⟩
      · exact ⟨c0, (e2 b' e).trans hc0, rfl⟩
  refine ⟨{ size := fun b' hb' => ?_, fresh := h.fresh, objs := fun l ob hl => ?_, inj := h.inj, arrs := fun b' m' n' hk' => ?_, toks := fun t s ht => ?_, tinj := h.tinj }, hext, fun j u hj => ?_⟩
  · rw [e1]
    by_cases e : b' = b
    · subst e; exact h.size b' (by rw [hk]; simp)
    · have hb'' : upd g.kind b (.arr (p + news.length) n) b' ≠ .none := hb'
      rw [hkind b' e] at hb''
      exact h.size b' hb''
  · obtain ⟨b', h4, h5, h6⟩ := h.objs l ob hl
    have hne : b' ≠ b := fun e => by rw [e, hk] at h5; cases h5
    exact ⟨b', h4, (hkind b' hne).trans h5, h6.ext (hext 0) (e2 b' hne)⟩
  · by_cases e : b' = b
    · subst e
      have hk'' : upd g.kind b' (.arr (p + news.length) n) b' = .arr m' n' := hk'
      rw [upd_same] at hk''; cases hk''
      refine ⟨hn, vs', T, fr, e3, by omega, fun i h4 h5 => ?_⟩
      have := h3 i (by omega) h5
      simp only [World.frozen?, h1] at this
      simp only [World.frozen?, e3]
      exact this
    · have hk'' : upd g.kind b (.arr (p + news.length) n) b' = .arr m' n' := hk'
      rw [hkind b' e] at hk''
      obtain ⟨h4, c', T', fr', h5, h6, h7⟩ := h.arrs b' m' n' hk''
      exact ⟨h4, c', T', fr', (e2 b' e).trans h5, h6, fun i h8 h9 => (frozen_of_heap (e2 b' e) i).trans (h7 i h8 h9)⟩
  · rcases h.toks t s ht with h4 | ⟨b', p', m', n', h4, h5, h6⟩
    · exact .inl h4
    · have hne : b' ≠ b := fun e => hno t p' s (by rw [ht]; simp) (by rw [← e]; exact h4)
      exact .inr ⟨b', p', m', n', h4, (hkind b' hne).trans h5, h6⟩
  · have hj' : j < news.length := (List.getElem?_eq_some_iff.1 hj).1
    simp only [World.cell?, e3]
    have := e5 (p + j)
    rw [if_pos (by omega)] at this
    simp only [Nat.add_sub_cancel_left] at this
    simpa [this] using hj
end
end Go.Lf
