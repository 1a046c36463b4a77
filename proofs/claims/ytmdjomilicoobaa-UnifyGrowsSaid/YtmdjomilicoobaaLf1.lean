/- A small logic over the kit's calls: values as trees, slices as lists. Part 1: values, ghosts, what a value stands for in memory. -/
import Derived.Laws.Sem
import Derived.Defers
import Derived.Recover
import Derived.KernelRfl
namespace Go.Lf
open Go

/-- What is known of a slice's room: nothing; it is nil; its capacity is its length; a token allows to append. -/
inductive Own where
  | no | nil | full | tok (t : Nat)
  deriving DecidableEq

/-- Values without addresses: a slice is the list of its elements. -/
inductive V where
  | any
  | raw (v : Value)
  | agg (cs : List V)
  | tup (vs : List V)
  | sl (es : List V)
  | ref (l : Nat) (off : Nat)
  | eptr (v : V) (off : Nat)
  | mp (l : Nat)
  | fn (f : Fn) (first cap : List V)
  | iface (t : TypeId) (v : V)

/-- The cells of a value. -/
def V.cells : V → List V
  | .agg cs => cs
  | v => [v]

/-- A cell: a value, and what is known of its room. -/
abbrev Cell := V × Own

/-- A value that one cell can hold. -/
abbrev one : Value → Bool := Value.oneCell'

/-- What a tmp holds: a value, a struct whose cells' rooms are known, a place among the call's own variables. -/
inductive TV where
  | val (v : V) (o : Own)
  | agg (cs : List Cell)
  | lref (k : Nat) (off : Nat)

inductive Obj where
  | var (cs : List Cell)
  | map (m : Int → Option V)

/-- What a block is used for: nothing that is known; a variable or a map that is shared; an array, of which so many cells of so many are in use. -/
inductive Kind where
  | none | obj | arr (m n : Nat)
  deriving DecidableEq

structure G where
  kind : Nat → Kind
  loc : Nat → Option Nat
  tok : Nat → Option (Nat × Nat × Nat)

/-- The value stands for this one in memory. -/
inductive Rep (g : G) (w : World) : V → Value → Prop
  | any (v : Value) : Rep g w .any v
  | raw (v : Value) : Rep g w (.raw v) v
  | agg (cs : List V) (vs : Array Value) (hl : cs.length = vs.size) (h : ∀ (i : Nat) (c : V) (v : Value), cs[i]? = some c → vs[i]? = some v → Rep g w c v) : Rep g w (.agg cs) (.agg vs)
  | tup (cs : List V) (vs : Array Value) (hl : cs.length = vs.size) (h : ∀ (i : Nat) (c : V) (v : Value), cs[i]? = some c → vs[i]? = some v → Rep g w c v) : Rep g w (.tup cs) (.tuple vs)
  | nil : Rep g w (.sl []) (.slice none 0 0)
  | empty (a : Addr) (cap : Nat) : Rep g w (.sl []) (.slice (some a) 0 cap)
  | sl (es : List V) (b off cap s m n : Nat) (f : Nat → Nat → Value) (hk : g.kind b = .arr m n) (hm : off + es.length * s ≤ m) (hcap : es.length ≤ cap)
      (hs : ∀ (i : Nat) (e : V), es[i]? = some e → e.cells.length = s)
      (hc : ∀ (i : Nat) (e : V) (j : Nat) (c : V), es[i]? = some e → e.cells[j]? = some c → w.cell? ⟨b, off + i * s + j, none⟩ = some (f i j) ∧ one (f i j) = true)
      (h : ∀ (i : Nat) (e : V) (j : Nat) (c : V), es[i]? = some e → e.cells[j]? = some c → Rep g w c (f i j)) : Rep g w (.sl es) (.slice (some ⟨b, off, none⟩) es.length cap)
  | ref (l off b : Nat) (hl : g.loc l = some b) : Rep g w (.ref l off) (.pointer (some ⟨b, off, none⟩))
  | eptr (v : V) (o b off m n : Nat) (f : Nat → Value) (hk : g.kind b = .arr m n) (hm : off + v.cells.length ≤ m)
      (hc : ∀ (j : Nat) (c : V), v.cells[j]? = some c → w.cell? ⟨b, off + j, none⟩ = some (f j) ∧ one (f j) = true)
      (h : ∀ (j : Nat) (c : V), v.cells[j]? = some c → Rep g w c (f j)) : Rep g w (.eptr v o) (.pointer (some ⟨b, off + o, none⟩))
  | mp (l b : Nat) (hl : g.loc l = some b) : Rep g w (.mp l) (.map (some b))
  | fn (f : Fn) (first cap : List V) (vs us : Array Value) (hl : first.length = vs.size) (hl' : cap.length = us.size)
      (h : ∀ (i : Nat) (c : V) (v : Value), first[i]? = some c → vs[i]? = some v → Rep g w c v) (h' : ∀ (i : Nat) (c : V) (v : Value), cap[i]? = some c → us[i]? = some v → Rep g w c v) :
      Rep g w (.fn f first cap) (.func f vs us)
  | iface (t : TypeId) (v : V) (u : Value) (h : Rep g w v u) : Rep g w (.iface t v) (.iface t u)

/-- Lists of them. -/
def Reps (g : G) (w : World) (cs : List V) (vs : Array Value) : Prop :=
  cs.length = vs.size ∧ ∀ (i : Nat) (c : V) (v : Value), cs[i]? = some c → vs[i]? = some v → Rep g w c v

/-- What is known of the room holds. -/
def Fits (g : G) : Own → Value → Prop
  | .no, _ => True
  | .nil, v => v = .slice none 0 0
  | .full, v => v = .slice none 0 0 ∨ ∃ a n, v = .slice (some a) n n
  | .tok t, v => v = .slice none 0 0 ∨ ∃ b off n cap s m N, v = .slice (some ⟨b, off, none⟩) n cap ∧ g.tok t = some (b, off + n * s, s) ∧ g.kind b = .arr m N ∧ off + cap * s ≤ N ∧ n ≤ cap

def RepC (g : G) (w : World) (c : Cell) (v : Value) : Prop := Rep g w c.1 v ∧ Fits g c.2 v

def RepCs (g : G) (w : World) (cs : List Cell) (vs : Array Value) : Prop :=
  cs.length = vs.size ∧ ∀ (i : Nat) (c : Cell) (v : Value), cs[i]? = some c → vs[i]? = some v → RepC g w c v ∧ one v = true

/-- Is it the entry of a number? -/
def keyIs (n : Int) (e : MapEntry) : Bool := match e.key with | .int _ k' => n == k' | _ => false

/-- What a shared variable, or map, holds. -/
def RepObj (g : G) (w : World) (b : Nat) : Obj → Prop
  | .var cs => ∃ vs T, w.heap[b]? = some (.cells vs T (0, 0)) ∧ RepCs g w cs vs
  | .map m => ∃ es clock, w.heap[b]? = some (.map es clock) ∧ (∀ e ∈ es.toList, ∃ k, e.key = .int .i64 k) ∧
      (∀ k, match es.toList.find? (keyIs k) with
        | some e => ∃ v, m k = some v ∧ Rep g w v e.val
        | none => m k = none)

abbrev Store := Nat → Option Obj
abbrev Toks := Nat → Option Nat

/-- The store and the tokens fit the world. -/
structure Inv (g : G) (w : World) (σ : Store) (π : Toks) : Prop where
  size : ∀ b, g.kind b ≠ .none → b < w.heap.size
  fresh : ∃ n, ∀ l, n ≤ l → g.loc l = none ∧ g.tok l = none ∧ σ l = none ∧ π l = none
  objs : ∀ l o, σ l = some o → ∃ b, g.loc l = some b ∧ g.kind b = .obj ∧ RepObj g w b o
  inj : ∀ l l' b, σ l ≠ none → σ l' ≠ none → g.loc l = some b → g.loc l' = some b → l = l'
  arrs : ∀ b m n, g.kind b = .arr m n → m ≤ n ∧ ∃ c T fr, w.heap[b]? = some (.cells c T fr) ∧ c.size = n ∧ ∀ i, m ≤ i → i < n → w.frozen? ⟨b, i, none⟩ = false
  toks : ∀ t s, π t = some s → g.tok t = none ∨ ∃ b p m n, g.tok t = some (b, p, s) ∧ g.kind b = .arr m n ∧ m ≤ p
  tinj : ∀ t t' b p s p' s', π t ≠ none → π t' ≠ none → g.tok t = some (b, p, s) → g.tok t' = some (b, p', s') → t = t'

/-- From here to there all that stood below B and isn't shared stands, and what stood for something stands for it. -/
structure Ext (B : Nat) (g : G) (w : World) (g' : G) (w' : World) : Prop where
  size : w.heap.size ≤ w'.heap.size
  same : ∀ b, b < B → g.kind b = .none → w'.heap[b]? = w.heap[b]? ∧ g'.kind b = .none
  arr : ∀ b m n, g.kind b = .arr m n → ∃ m', m ≤ m' ∧ g'.kind b = .arr m' n ∧ ∀ i, i < m → w'.cell? ⟨b, i, none⟩ = w.cell? ⟨b, i, none⟩
  obj : ∀ b, g.kind b = .obj → g'.kind b = .obj
  loc : ∀ l b, g.loc l = some b → g'.loc l = some b
  tok : ∀ t x, g.tok t = some x → g'.tok t = some x
  env : w'.os = w.os ∧ w'.output = w.output
  fix : ∀ b m n, g.kind b = .arr m n → ∀ c T fr, w.heap[b]? = some (.cells c T fr) → ∃ c', w'.heap[b]? = some (.cells c' T fr) ∧ c'.size = c.size

theorem Ext.refl (B : Nat) (g : G) (w : World) : Ext B g w g w :=
  ⟨Nat.le_refl _, fun _ _ h => ⟨rfl, h⟩, fun _ m _ h => ⟨m, Nat.le_refl _, h, fun _ _ => rfl⟩, fun _ h => h, fun _ _ h => h, fun _ _ h => h, ⟨rfl, rfl⟩, fun _ _ _ _ c _ _ h => ⟨c, h, rfl⟩⟩

theorem Ext.trans {B : Nat} {g g' g'' : G} {w w' w'' : World} (h : Ext B g w g' w') (h' : Ext B g' w' g'' w'') : Ext B g w g'' w'' where
  size := Nat.le_trans h.size h'.size
  same b hb hk := by
    obtain ⟨h1, h2⟩ := h.same b hb hk
    obtain ⟨h3, h4⟩ := h'.same b hb h2
    exact ⟨h3.trans h1, h4⟩
  arr b m n hk := by
    obtain ⟨m1, h1, h2, h3⟩ := h.arr b m n hk
    obtain ⟨m2, h4, h5, h6⟩ := h'.arr b m1 n h2
    exact ⟨m2, Nat.le_trans h1 h4, h5, fun i hi => (h6 i (Nat.lt_of_lt_of_le hi h1)).trans (h3 i hi)⟩
  obj b hk := h'.obj b (h.obj b hk)
  loc l b hl := h'.loc l b (h.loc l b hl)
  tok t x ht := h'.tok t x (h.tok t x ht)
  env := ⟨h'.env.1.trans h.env.1, h'.env.2.trans h.env.2⟩
  fix b m n hk c T fr hc := by
    obtain ⟨m1, _, h2, _⟩ := h.arr b m n hk
    obtain ⟨c1, h4, h5⟩ := h.fix b m n hk c T fr hc
    obtain ⟨c2, h6, h7⟩ := h'.fix b m1 n h2 c1 T fr h4
    exact ⟨c2, h6, h7.trans h5⟩

theorem Ext.mono {B B' : Nat} {g g' : G} {w w' : World} (h : Ext B g w g' w') (hb : B' ≤ B) : Ext B' g w g' w' :=
  { h with same := fun b hb' hk => h.same b (Nat.lt_of_lt_of_le hb' hb) hk }

theorem Rep.ext {B : Nat} {g g' : G} {w w' : World} (h : Ext B g w g' w') {v : V} {x : Value} (hr : Rep g w v x) : Rep g' w' v x := by
  induction hr with
  | any v => exact .any v
  | raw v => exact .raw v
  | agg cs vs hl _ ih => exact .agg cs vs hl ih
  | tup cs vs hl _ ih => exact .tup cs vs hl ih
  | nil => exact .nil
  | empty a cap => exact .empty a cap
  | sl es b off cap s m n f hk hm hcap hs hc _ ih =>
    obtain ⟨m', h1, h2, h3⟩ := h.arr b m n hk
    refine .sl es b off cap s m' n f h2 (Nat.le_trans hm h1) hcap hs (fun i e j c hi hj => ?_) ih
    rw [h3 _ ?_]
    · exact hc i e j c hi hj
    · have hi' : i < es.length := (List.getElem?_eq_some_iff.1 hi).1
      have hj' : j < e.cells.length := (List.getElem?_eq_some_iff.1 hj).1
      rw [hs i e hi] at hj'
      have : (i + 1) * s ≤ es.length * s := Nat.mul_le_mul_right s hi'
      rw [Nat.add_mul, Nat.one_mul] at this
      omega
  | ref l off b hl => exact .ref l off b (h.loc l b hl)
  | eptr v o b off m n f hk hm hc _ ih =>
    obtain ⟨m', h1, h2, h3⟩ := h.arr b m n hk
    refine .eptr v o b off m' n f h2 (Nat.le_trans hm h1) (fun j c hj => ?_) ih
    rw [h3 _ ?_]
    · exact hc j c hj
    · have hj' : j < v.cells.length := (List.getElem?_eq_some_iff.1 hj).1
      omega
  | mp l b hl => exact .mp l b (h.loc l b hl)
  | fn f first cap vs us hl hl' _ _ ih ih' => exact .fn f first cap vs us hl hl' ih ih'
  | iface t v u _ ih => exact .iface t v u ih

theorem Reps.ext {B : Nat} {g g' : G} {w w' : World} (h : Ext B g w g' w') {cs : List V} {vs : Array Value} (hr : Reps g w cs vs) : Reps g' w' cs vs :=
  ⟨hr.1, fun i c v hc hv => (hr.2 i c v hc hv).ext h⟩

theorem Fits.ext {B : Nat} {g g' : G} {w w' : World} (h : Ext B g w g' w') {o : Own} {x : Value} (hr : Fits g o x) : Fits g' o x := by
  cases o with
  | tok t =>
    rcases hr with hr | ⟨b, off, n, cap, s, m, N, h1, h2, h3, h4, h5⟩
    · exact .inl hr
    · obtain ⟨m', _, h7, _⟩ := h.arr b m N h3
      exact .inr ⟨b, off, n, cap, s, m', N, h1, h.tok _ _ h2, h7, h4, h5⟩
  | _ => exact hr

theorem RepC.ext {B : Nat} {g g' : G} {w w' : World} (h : Ext B g w g' w') {c : Cell} {x : Value} (hr : RepC g w c x) : RepC g' w' c x :=
  ⟨hr.1.ext h, hr.2.ext h⟩

theorem RepCs.ext {B : Nat} {g g' : G} {w w' : World} (h : Ext B g w g' w') {cs : List Cell} {vs : Array Value} (hr : RepCs g w cs vs) : RepCs g' w' cs vs :=
  ⟨hr.1, fun i c v hc hv => ⟨(hr.2 i c v hc hv).1.ext h, (hr.2 i c v hc hv).2⟩⟩

theorem RepObj.ext {B : Nat} {g g' : G} {w w' : World} (h : Ext B g w g' w') {b : Nat} (hb : w'.heap[b]? = w.heap[b]?) {o : Obj} (hr : RepObj g w b o) : RepObj g' w' b o := by
  cases o with
  | var cs =>
    obtain ⟨vs, T, h1, h2⟩ := hr
    exact ⟨vs, T, hb.trans h1, h2.ext h⟩
  | map m =>
    obtain ⟨es, clock, h1, h2, h3⟩ := hr
    refine ⟨es, clock, hb.trans h1, h2, fun k => ?_⟩
    have := h3 k
    split
    · rename_i e he
      rw [he] at this
      obtain ⟨v, h4, h5⟩ := this
      exact ⟨v, h4, h5.ext h⟩
    · rename_i he
      rw [he] at this
      exact this
end Go.Lf
