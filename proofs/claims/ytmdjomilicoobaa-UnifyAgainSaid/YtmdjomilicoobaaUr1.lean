/- From a reading of the arguments to values without addresses, and what the call leaves. -/
import Derived.Test.YtmdjomilicoobaaUn2
import Derived.ProofKit
import Derived.SizedLaws
import Derived.Deep.Strs
namespace Go.Lf
open Go Go.Proofs
set_option maxRecDepth 10000
set_option maxHeartbeats 1000000

/-- All that is there at the start is an array that is in use. -/
def g0 (W : World) : G where
  kind b := match W.heap[b]? with
    | some (.cells c _ _) => .arr c.size c.size
    | _ => .none
  loc _ := none
  tok _ := none

theorem g0_arr {W : World} {b m n : Nat} (h : (g0 W).kind b = .arr m n) : ∃ c T fr, W.heap[b]? = some (.cells c T fr) ∧ c.size = m ∧ m = n := by
  have h' : (match W.heap[b]? with | some (.cells c _ _) => Kind.arr c.size c.size | _ => Kind.none) = .arr m n := h
  split at h'
  · rename_i c T fr hc
    cases h'
    exact ⟨c, T, fr, hc, rfl, rfl⟩
  · cases h'

theorem g0_obj {W : World} {b : Nat} (h : (g0 W).kind b = .obj) : False := by
  have h' : (match W.heap[b]? with | some (.cells c _ _) => Kind.arr c.size c.size | _ => Kind.none) = .obj := h
  split at h' <;> cases h'

theorem g0_inv (W : World) : Inv (g0 W) W (fun _ => none) (fun _ => none) where
  size b hb := by
    have h' : (match W.heap[b]? with | some (.cells c _ _) => Kind.arr c.size c.size | _ => Kind.none) ≠ .none := hb
    split at h'
    · rename_i hc; exact (Array.getElem?_eq_some_iff.1 hc).1
    · exact absurd rfl h'
  fresh := ⟨0, fun _ _ => ⟨rfl, rfl, rfl, rfl⟩⟩
  objs l o h := by cases h
  inj l l' b h := absurd rfl h
  arrs b m n h := by
    obtain ⟨c, T, fr, h1, h2, h3⟩ := g0_arr h
    exact ⟨by omega, c, T, fr, h1, by omega, fun i h4 h5 => by omega⟩
  toks t s h := by cases h
  tinj t t' b p s p' s' h := absurd rfl h

theorem g0_cell {W : World} {b off : Nat} {v : Value} (h : W.cell? ⟨b, off, none⟩ = some v) : ∃ n, (g0 W).kind b = .arr n n ∧ off < n := by
  unfold World.cell? at h
  split at h
  · rename_i c T fr hc
    refine ⟨c.size, ?_, ?_⟩
    · show (match W.heap[b]? with | some (.cells c _ _) => Kind.arr c.size c.size | _ => Kind.none) = _
      have hc' : W.heap[b]? = some (.cells c T fr) := hc
      rw [hc']
    · have h' : c[off]? = some v := by simpa using h
      exact (Array.getElem?_eq_some_iff.1 h').1
  · cases h

/-- Old memory is as it was. -/
theorem ext_heap {W W' : World} {g' : G} (h : Ext W.heap.size (g0 W) W g' W') {b : Nat} (hb : b < W.heap.size) : W'.heap[b]? = W.heap[b]? := by
  cases hk : (g0 W).kind b with
  | none => exact (h.same b hb hk).1
  | obj => exact (g0_obj hk).elim
  | arr m n =>
    obtain ⟨c, T, fr, h1, h2, h3⟩ := g0_arr hk
    obtain ⟨c', h4, h5⟩ := h.fix b m n hk c T fr h1
    obtain ⟨m', _, _, h6⟩ := h.arr b m n hk
    rw [h4, h1]
    have : c' = c := by
      apply Array.ext_getElem?
      intro i
      by_cases e : i < m
      · have := h6 i e
        simp only [World.cell?, h4, h1] at this
        simpa using this
      · rw [Array.getElem?_eq_none (by omega), Array.getElem?_eq_none (by omega)]
    rw [this]

theorem ext_kept {W W' : World} {g' : G} (h : Ext W.heap.size (g0 W) W g' W') (may : MemPlace → Prop) : W.keptBut W' may := by
  refine ⟨h.env.1, h.env.2, fun i hi => ?_⟩
  rw [ext_heap h hi]
  cases W.heap[i]? with
  | none => rfl
  | some o => cases o <;> first | exact ⟨rfl, rfl, rfl, fun _ _ => rfl⟩ | exact .inr ⟨rfl, rfl⟩ | rfl

theorem ext_same {W W' : World} {g' : G} (h : Ext W.heap.size (g0 W) W g' W') {p : MemPlace} (hp : p.block < W.heap.size) : W.sameAt W' p := by
  have hh := ext_heap h hp
  cases p with
  | cell b off =>
    show W'.cell? _ = W.cell? _
    exact cell_of_heap hh off
  | map b => exact hh

theorem trodAll_carry {H : Type} {enc : TypeId × Value → H} {P : Program} {w w' : World} {base : Nat} {spare : Nat → Bool} {held : Bool} : ∀ {ts : List TypeId} {vs : List Value} {ds : List (DataW H)} {ps : List MemPlace},
    DataW.TrodAll enc P w base spare held ts vs ds ps → (∀ p ∈ ps, w.sameAt w' p) → DataW.TrodAll enc P w' base spare held ts vs ds ps
  | [], [], [], _, h, _ => h
  | _ :: _, _ :: _, _ :: _, _, ⟨p, q, ⟨n, hn⟩, h2, e⟩, hs => ⟨p, q, ⟨n, DataW.trod_carry n _ _ _ hn fun x hx => hs x (by rw [e]; exact List.mem_append_left _ hx)⟩,
      trodAll_carry h2 (fun x hx => hs x (by rw [e]; exact List.mem_append_right _ hx)), e⟩

/-- What a law's statement asks of the end of the call. -/
theorem law_post {H : Type} {enc : TypeId × Value → H} {P : Program} {s : ChangeSpec} {fn : Func} {W W' : World} {g' : G} {args : Array Value} {ds gs : List (DataW H)} {before : List MemPlace} {tb : TypeId}
    (kids : Kids P (· < P.types.size)) (full : ∀ t e, t < P.types.size → P.underlying t = some (.slice e) → 0 < P.cellsOf e) (hT : ∀ t ∈ fn.params.toList, t < P.types.size) (hs : s.vars = []) (hres : fn.resultTypes = #[tb]) (hb : P.underlying tb = some .bool)
    (hW : DataW.Whole enc P fn.params.toList s.vars false W args.toList ds gs before) (hspec : s.fn H (ds ++ gs) = { results := [.lit (.bool true)], args := ds }) (hx : Ext W.heap.size (g0 W) W g' W') :
    s.post enc P fn false true false false W args (.bool true) W' := by
  have hlt := hW.lt
  have hW2 := hW
  obtain ⟨p, q, hA, hV, hpq, hfz, _⟩ := hW
  rw [hs] at hV
  obtain ⟨rfl, rfl⟩ := ChangeShapes.trodVars_none hV
  rw [List.append_nil] at hpq
  subst hpq
  refine ⟨ds, [], before, [], before, [], hW2, ?_, ?_, ?_, ext_kept hx _, fun h => by cases h⟩
  · rw [hspec, hres]
    exact ChangeShapes.trodAll_mk1 ⟨1, by simp [DataW.trod, hb, Value.cells]⟩
  · rw [hspec]
    have h1 := DataW.TrodAll.respare (spare' := fun b => decide (b < W.heap.size)) kids full hT hA (fun p hp => by simpa using hlt p hp)
    exact trodAll_carry h1 fun p hp => ext_same hx (hlt p hp)
  · rw [hspec, hs]; rfl
end Go.Lf
