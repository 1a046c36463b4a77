/- Readings of types. -/
import Derived.Test.YtmdjomilicoobaaUr1
namespace Go.Lf
open Go Go.Proofs
set_option maxRecDepth 10000
set_option maxHeartbeats 1000000

/-- The numbers of the types: of rows of types, of types, of kinds, of variables. -/
structure TyIn (P : Program) (sl st tk tn : TypeId) : Prop where
  usl : P.underlying sl = some (.slice st)
  ust : ∃ f0 f1 f2 : Field, P.underlying st = some (.struct #[f0, f1, f2]) ∧ f0.type = tk ∧ f0.offset = 0 ∧ f1.type = tn ∧ f1.offset = 1 ∧ f2.type = sl ∧ f2.offset = 2
  utk : P.underlying tk = some (.int .u8)
  utn : P.underlying tn = some (.int .i64)
  c0 : P.cellsOf st = 3
  c1 : P.cellsOf tk = 1
  c2 : P.cellsOf tn = 1
  c3 : P.cellsOf sl = 1
  by_ : 0 < P.bytesOf st

theorem wf_u8 {n : Int} (h : (Lit.int .u8 n).wf = true) : 0 ≤ n ∧ n ≤ 255 := by
  have h' : decide (IntKind.u8.min ≤ n ∧ n ≤ IntKind.u8.max) = true := by simpa [Lit.wf, IntKind.has] using h
  have := of_decide_eq_true h'
  rw [show IntKind.u8.min = 0 from rfl, show IntKind.u8.max = 255 from rfl] at this
  exact this

theorem wf_i64 {n : Int} (h : (Lit.int .i64 n).wf = true) : -9223372036854775808 ≤ n ∧ n ≤ 9223372036854775807 := by
  have h' : decide (IntKind.i64.min ≤ n ∧ n ≤ IntKind.i64.max) = true := by simpa [Lit.wf, IntKind.has] using h
  have := of_decide_eq_true h'
  rw [show IntKind.i64.min = -9223372036854775808 from rfl, show IntKind.i64.max = 9223372036854775807 from rfl] at this
  exact this

theorem weightsAll_mem {H : Type} {P : Program} {e : TypeId} : ∀ {l : List (DataW H)} {d : DataW H}, d ∈ l → ∀ n ∈ d.weights P e, n ∈ DataW.weightsAll P e l
  | d0 :: r, d, h, n, hn => by
    simp only [DataW.weightsAll, List.mem_append]
    rcases List.mem_cons.1 h with rfl | h
    · exact .inl hn
    · exact .inr (weightsAll_mem h n hn)

/-- A slice's elements, each with its cells. -/
theorem sl_rep {W : World} {b off len cap : Nat} {es : List V} {s : Nat} (hs0 : 0 < s) (hlen : es.length = len) (hcap : len ≤ cap) (hne : 0 < len) (C : Nat → List Value) (hC : ∀ i, i < len → (C i).length = s ∧ ∀ j, j < s → W.cell? ⟨b, off + i * s + j, none⟩ = (C i)[j]?)
    (he : ∀ (i : Nat) (e : V), es[i]? = some e → e.cells.length = s ∧ ∀ (j : Nat) (c : V) (v : Value), e.cells[j]? = some c → (C i)[j]? = some v → Rep (g0 W) W c v ∧ one v = true) :
    Rep (g0 W) W (.sl es) (.slice (some ⟨b, off, none⟩) len cap) := by
  have hget : ∀ i j, i < len → j < s → ∃ v, (C i)[j]? = some v ∧ W.cell? ⟨b, off + i * s + j, none⟩ = some v := fun i j hi hj => by
    obtain ⟨h1, h2⟩ := hC i hi
    exact ⟨(C i)[j], by simp [h1, hj], (h2 j hj).trans (by simp [h1, hj])⟩
  obtain ⟨v, _, hv⟩ := hget (len - 1) (s - 1) (by omega) (by omega)
  obtain ⟨n, hk, hn⟩ := g0_cell hv
  have hm : off + len * s ≤ n := by
    have : (len - 1) * s + s = len * s := by
      obtain ⟨k, rfl⟩ : ∃ k, len = k + 1 := ⟨len - 1, by omega⟩
      rw [Nat.add_sub_cancel, Nat.add_mul, Nat.one_mul]
    omega
  rw [← hlen]
  refine .sl es b off cap s n n (fun i j => ((C i)[j]?).getD undef) hk (by rw [hlen]; exact hm) (by omega) (fun i e h => (he i e h).1) (fun i e j c hi hj => ?_) (fun i e j c hi hj => ?_)
  · have hi' : i < len := by rw [← hlen]; exact (List.getElem?_eq_some_iff.1 hi).1
    have hj' : j < s := by rw [← (he i e hi).1]; exact (List.getElem?_eq_some_iff.1 hj).1
    obtain ⟨v, h1, h2⟩ := hget i j hi' hj'
    rw [h1, h2]
    exact ⟨rfl, ((he i e hi).2 j c v hj h1).2⟩
  · have hi' : i < len := by rw [← hlen]; exact (List.getElem?_eq_some_iff.1 hi).1
    have hj' : j < s := by rw [← (he i e hi).1]; exact (List.getElem?_eq_some_iff.1 hj).1
    obtain ⟨v, h1, h2⟩ := hget i j hi' hj'
    rw [h1]
    exact ((he i e hi).2 j c v hj h1).1

/-- A slice that was read: of its elements all cells are known. -/
theorem open_sl {H : Type} {enc : TypeId × Value → H} {P : Program} {W : World} {fuel : Nat} {t e : TypeId} {cs : List Value} {d : DataW H} {ps : List MemPlace} {s : Nat} (hs0 : 0 < s) (hu : P.underlying t = some (.slice e)) (hc : P.cellsOf e = s) (hb : 0 < P.bytesOf e)
    (h : DataW.trod enc P W 0 (fun _ => true) true (fuel + 1) t cs = some (d, ps)) (hw : ∀ n ∈ d.weights P t, n ≤ reachBytes) :
    cs = [.slice none 0 0] ∨ (∃ a cap, cs = [.slice (some a) 0 cap]) ∨
    ∃ b off len cap, cs = [.slice (some ⟨b, off, none⟩) len cap] ∧ 0 < len ∧ len ≤ cap ∧ len ≤ 2 ^ 47 ∧ ∀ i, i < len → ∃ (C : List Value) (x : DataW H) (p : List MemPlace), C.length = s ∧ (∀ j, j < s → W.cell? ⟨b, off + i * s + j, none⟩ = C[j]?) ∧
      DataW.trod enc P W 0 (fun _ => true) true fuel e C = some (x, p) ∧ ∀ n ∈ x.weights P e, n ≤ reachBytes := by
  rcases DataW.trod_slice hu h with ⟨h1, _⟩ | ⟨a, len, cap, elems, rest, n, hn, rfl, hx, _, hl, hm, hlen, hel, _, _⟩
  · exact .inl h1
  · cases hn
    by_cases h0 : len = 0
    · subst h0; exact .inr (.inl ⟨a, cap, rfl⟩)
    · refine .inr (.inr ?_)
      rw [hc] at hel
      have hd : d = .slice (elems.map (·.1)) (rest.map (·.1)) := (Prod.ext_iff.1 hx).1
      subst hd
      have hsz := hw ((elems.length + rest.length) * P.bytesOf e) (by simp [DataW.weights, hu])
      have hr : reachBytes < 2 ^ 47 := reachBytes_lt
      have hlen' : len ≤ 2 ^ 47 := by
        have : (elems.length + rest.length) * 1 ≤ (elems.length + rest.length) * P.bytesOf e := Nat.mul_le_mul_left _ hb
        omega
      have key : ∀ i, i < len → ∃ C x p, W.cells? 0 (a.add (i * s)) s = some C ∧ DataW.trod enc P W 0 (fun _ => true) true fuel e C = some (x, p) ∧ elems[i]? = some (x, p) := fun i hi => by
        have := hel i hi
        have hi' : i < elems.length := by omega
        rw [show elems[i]? = some elems[i] by simp [hi']] at this ⊢
        rw [Option.bind_eq_some_iff] at this
        obtain ⟨C, h1, h2⟩ := this
        exact ⟨C, elems[i].1, elems[i].2, h1, h2, rfl⟩
      have hspot : a.spot = none := by
        obtain ⟨C, x, p, h1, _, _⟩ := key 0 (by omega)
        obtain ⟨_, h3, h4⟩ := World.cells?_some h1
        have h5 := h4 0 hs0
        have h6 : C[0]? = some (C[0]'(by omega)) := by simp
        rw [h6] at h5
        have e1 : (a.add (0 * s)).add 0 = a := by simp [Addr.add]
        rw [e1] at h5
        unfold World.cell? at h5
        split at h5
        · cases hs : a.spot with
          | none => rfl
          | some x => simp [hs] at h5
        · cases h5
      obtain ⟨b, off, sp⟩ := a
      have hspot : sp = none := hspot
      subst hspot
      refine ⟨b, off, len, cap, rfl, by omega, hl, hlen', fun i hi => ?_⟩
      obtain ⟨C, x, p, h1, h2, h3⟩ := key i hi
      obtain ⟨_, h4, h5⟩ := World.cells?_some h1
      refine ⟨C, x, p, h4, fun j hj => ?_, h2, fun n hn => hw n ?_⟩
      · have := h5 j hj
        rwa [Addr.add_mid, Addr.add_mid] at this
      · simp only [DataW.weights, hu, List.mem_cons, List.mem_append]
        exact .inr (.inl (weightsAll_mem (List.mem_map.2 ⟨(x, p), List.mem_of_getElem? h3, rfl⟩) n hn))

theorem read_ty {H : Type} {enc : TypeId × Value → H} {P : Program} {W : World} {sl st tk tn : TypeId} (I : TyIn P sl st tk tn) : ∀ fuel,
    (∀ (cs : List Value) (d : DataW H) (ps : List MemPlace), DataW.trod enc P W 0 (fun _ => true) true fuel sl cs = some (d, ps) → (∀ n ∈ d.weights P sl, n ≤ reachBytes) →
      ∃ ks v, cs = [v] ∧ ks.length ≤ 2 ^ 47 ∧ (∀ t ∈ ks, Ty.Ok t) ∧ Rep (g0 W) W (.sl (Ty.vs ks)) v ∧ one v = true) ∧
    (∀ (cs : List Value) (d : DataW H) (ps : List MemPlace), DataW.trod enc P W 0 (fun _ => true) true fuel st cs = some (d, ps) → (∀ n ∈ d.weights P st, n ≤ reachBytes) →
      ∃ k n ks v, cs = [.int .u8 k, .int .i64 n, v] ∧ (Ty.mk k n ks).Ok ∧ Rep (g0 W) W (.sl (Ty.vs ks)) v ∧ one v = true) := by
  intro fuel
  induction fuel with
  | zero => exact ⟨fun cs d ps h => by simp [DataW.trod] at h, fun cs d ps h => by simp [DataW.trod] at h⟩
  | succ fuel ih =>
    refine ⟨fun cs d ps h hw => ?_, fun cs d ps h hw => ?_⟩
    · rcases open_sl (s := 3) (by omega) I.usl I.c0 I.by_ h hw with rfl | ⟨a, cap, rfl⟩ | ⟨b, off, len, cap, rfl, h0, hcap, hlen, hel⟩
      · exact ⟨[], _, rfl, by simp, by simp, .nil, rfl⟩
      · exact ⟨[], _, rfl, by simp, by simp, .empty a cap, rfl⟩
      · have key : ∀ i, ∃ y : Ty × List Value, i < len → y.2.length = 3 ∧ (∀ j, j < 3 → W.cell? ⟨b, off + i * 3 + j, none⟩ = y.2[j]?) ∧ y.1.Ok ∧ ∃ k n ks v, y.1 = .mk k n ks ∧ y.2 = [.int .u8 k, .int .i64 n, v] ∧ Rep (g0 W) W (.sl (Ty.vs ks)) v ∧ one v = true := fun i => by
          by_cases hi : i < len
          · obtain ⟨C, x, p, h1, h2, h3, h4⟩ := hel i hi
            obtain ⟨k, n, ks, v, h5, h6, h7, h8⟩ := ih.2 C x p h3 h4
            exact ⟨(.mk k n ks, C), fun _ => ⟨h1, h2, h6, k, n, ks, v, rfl, h5, h7, h8⟩⟩
          · exact ⟨(.mk 0 0 [], []), fun h => absurd h hi⟩
        obtain ⟨F, hF⟩ := Classical.axiomOfChoice key
        have hget : ∀ (i : Nat) (t : Ty), ((List.range len).map fun i => (F i).1)[i]? = some t → i < len ∧ t = (F i).1 := fun i t h => by
          rw [List.getElem?_map, Option.map_eq_some_iff] at h
          obtain ⟨a, h1, h2⟩ := h
          have hi : i < len := by
            have := (List.getElem?_eq_some_iff.1 h1).1
            simpa using this
          rw [List.getElem?_range hi] at h1
          cases h1
          exact ⟨hi, h2.symm⟩
        refine ⟨(List.range len).map fun i => (F i).1, _, rfl, by simpa using hlen, fun t ht => ?_, ?_, rfl⟩
        · obtain ⟨i, hi, rfl⟩ := List.mem_map.1 ht
          exact (hF i (by simpa using hi)).2.2.1
        · refine sl_rep (s := 3) (by omega) (by rw [Ty.vs_length]; simp) hcap h0 (fun i => (F i).2) (fun i hi => ⟨(hF i hi).1, (hF i hi).2.1⟩) fun i e hi => ?_
          rw [Ty.vs_map, List.getElem?_map, Option.map_eq_some_iff] at hi
          obtain ⟨t, h1, rfl⟩ := hi
          obtain ⟨hi, rfl⟩ := hget i t h1
          obtain ⟨_, _, _, k, n, ks, v, h2, h3, h4, h5⟩ := hF i hi
          rw [h2]
          refine ⟨rfl, fun j c u hj hu => ?_⟩
          rw [h3] at hu
          match j with
          | 0 => cases hj; cases hu; exact ⟨.raw _, rfl⟩
          | 1 => cases hj; cases hu; exact ⟨.raw _, rfl⟩
          | 2 => cases hj; cases hu; exact ⟨h4, h5⟩
          | j + 3 => simp [V.cells, Ty.v] at hj
    · obtain ⟨f0, f1, f2, hst, t0, o0, t1, o1, t2, o2⟩ := I.ust
      obtain ⟨xs, n, hn, hx, hl, hlen, hf⟩ := DataW.trod_struct hst h
      cases hn
      rw [I.c0] at hl
      have hlen : xs.length = 3 := hlen
      obtain ⟨c0, c1, c2, rfl⟩ : ∃ c0 c1 c2, cs = [c0, c1, c2] := by
        match cs, hl with
        | [c0, c1, c2], _ => exact ⟨c0, c1, c2, rfl⟩
      obtain ⟨y0, y1, y2, rfl⟩ : ∃ y0 y1 y2, xs = [y0, y1, y2] := by
        match xs, hlen with
        | [y0, y1, y2], _ => exact ⟨y0, y1, y2, rfl⟩
      have g0 := hf 0 f0 rfl
      have g1 := hf 1 f1 rfl
      have g2 := hf 2 f2 rfl
      rw [t0, o0, I.c1] at g0
      rw [t1, o1, I.c2] at g1
      rw [t2, o2, I.c3] at g2
      obtain ⟨k, e1, _, w1⟩ := DataW.trod_int I.utk g0
      obtain ⟨m, e2, _, w2⟩ := DataW.trod_int I.utn g1
      have hd : d = .agg [y0.1, y1.1, y2.1] := (Prod.ext_iff.1 hx).1
      subst hd
      obtain ⟨ks, v, e3, l3, ok3, r3, one3⟩ := ih.1 _ y2.1 y2.2 g2 fun n hn => hw n (by
        simp only [DataW.weights, hst, DataW.weightsEach, t2, List.map_cons, List.map_nil, List.mem_append]
        exact .inr (.inr (.inl hn)))
      cases e1; cases e2; cases e3
      exact ⟨k, m, ks, _, rfl, .mk (wf_u8 w1) (wf_i64 w2) l3 ok3, r3, one3⟩

/-- A row of types. -/
theorem read_row {H : Type} {enc : TypeId × Value → H} {P : Program} {W : World} {base : Nat} {sl st tk tn : TypeId} (I : TyIn P sl st tk tn) {v : Value} {d : DataW H} {ps : List MemPlace} (hval : Value.okWide P W .any base sl v)
    (h : DataW.Trod enc P W 0 (fun _ => true) true sl v d ps) (hw : ∀ n ∈ d.weights P sl, n ≤ reachBytes) : ∃ ks, ks.length ≤ 2 ^ 47 ∧ (∀ t ∈ ks, Ty.Ok t) ∧ Rep (g0 W) W (.sl (Ty.vs ks)) v := by
  obtain ⟨fuel, h⟩ := h
  obtain ⟨ks, u, h1, h2, h3, h4, h5⟩ := (read_ty I fuel).1 _ d ps h hw
  simp only [Value.okWide, I.usl, Cell.okWide, Cell.ok] at hval
  have : v = u := by
    cases v with
    | agg cs => exact hval.elim
    | _ => exact (List.cons.inj h1).1
  rw [this]
  exact ⟨ks, h2, h3, h4⟩

/-- A type. -/
theorem read_one {H : Type} {enc : TypeId × Value → H} {P : Program} {W : World} {base : Nat} {sl st tk tn : TypeId} (I : TyIn P sl st tk tn) {v : Value} {d : DataW H} {ps : List MemPlace} (hval : Value.okWide P W .any base st v)
    (h : DataW.Trod enc P W 0 (fun _ => true) true st v d ps) (hw : ∀ n ∈ d.weights P st, n ≤ reachBytes) : ∃ t : Ty, t.Ok ∧ Rep (g0 W) W t.v v := by
  obtain ⟨fuel, h⟩ := h
  obtain ⟨k, n, ks, u, h1, h2, h3, h4⟩ := (read_ty I fuel).2 _ d ps h hw
  obtain ⟨f0, f1, f2, hst, _⟩ := I.ust
  simp only [Value.okWide, hst] at hval
  obtain ⟨cs, rfl, _⟩ := hval
  refine ⟨.mk k n ks, h2, ?_⟩
  have h1 : cs.toList = [.int .u8 k, .int .i64 n, u] := h1
  obtain rfl : cs = #[.int .u8 k, .int .i64 n, u] := by cases cs; simpa using h1
  refine .agg _ _ rfl fun i c x hc hx => ?_
  match i with
  | 0 => cases hc; cases hx; exact .raw _
  | 1 => cases hc; cases hx; exact .raw _
  | 2 => cases hc; cases hx; exact h3
  | i + 3 => simp at hc
end Go.Lf
