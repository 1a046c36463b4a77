/- The references of layer 8, walked: sizes. -/
import Derived.Test.YtmdjomilicoobaaUn2
namespace Go.Lf
open Go Go.Proofs
set_option maxRecDepth 10000
set_option maxHeartbeats 1000000

theorem same_calls : ∀ t u : Ty, t.Ok → PCall Try.prog 14 [t.v, u.v] (vB (Ty.same t u)) := by
  refine Ty.ind fun k n ks ih u ht => ?_
  obtain ⟨k', n', ks'⟩ := u
  cases ht with
  | mk hk hn hl hall => exact ref_same k n k' n' ks ks' hl fun t h u _ => ih t h u (hall t h)

mutual
theorem Ty.left_of : ∀ (t : Ty) (n : Int), 0 ≤ n → (Ty.left t n = if n < t.size then -1 else n - t.size)
  | .mk k m ks, n, h => by
    rw [Ty.left, Ty.size]
    by_cases e : n = 0
    · subst e
      have : Ty.lefts ks (0 - 1) = -1 := by cases ks <;> simp [Ty.lefts]
      rw [this, if_pos (by omega)]
    · rw [Ty.lefts_of ks (n - 1) (by omega)]
      split <;> split <;> omega
theorem Ty.lefts_of : ∀ (ks : List Ty) (n : Int), 0 ≤ n → (Ty.lefts ks n = if n < Ty.sizes ks then -1 else n - Ty.sizes ks)
  | [], n, h => by simp [Ty.lefts, Ty.sizes]; omega
  | t :: ts, n, h => by
    rw [Ty.lefts, if_neg (by omega), Ty.left_of t n h, Ty.sizes]
    split
    · rw [if_pos (by omega)]
      cases ts <;> simp [Ty.lefts]
    · rw [Ty.lefts_of ts _ (by omega)]
      split <;> split <;> omega
end

theorem Ty.lefts_neg (ks : List Ty) {n : Int} (h : n < 0) : Ty.lefts ks n = n := by cases ks <;> simp [Ty.lefts, h]

theorem Ty.lefts_drop {ks : List Ty} {i : Nat} {t : Ty} {n : Int} (h : ks[i]? = some t) (hn : 0 ≤ n) : Ty.lefts (ks.drop i) n = Ty.lefts (ks.drop (i + 1)) (Ty.left t n) := by
  rw [List.drop_eq_getElem_cons (List.getElem?_eq_some_iff.1 h).1, (List.getElem?_eq_some_iff.1 h).2, Ty.lefts, if_neg (by omega)]

theorem Ty.left_le (t : Ty) {n : Int} (h : 0 ≤ n) : -1 ≤ Ty.left t n ∧ Ty.left t n ≤ n := by
  rw [Ty.left_of t n h]; split <;> omega

theorem left_calls : ∀ t : Ty, t.Ok → ∀ n : Int, 0 ≤ n → n ≤ 2 ^ 47 → PCall Try.prog 25 [t.v, vI n] (vI (Ty.left t n)) := by
  refine Ty.ind fun k m ks ih ht n hn0 hn1 => ?_
  cases ht with
  | mk hk hm hl hall =>
  intro σ π
  refine acalls_of [] mixed Try.func25 rfl (by kernel_rfl) (by kernel_rfl) ?_
  conv => whnf
  refine ⟨{ p : Nat × Int // p.1 ≤ ks.length ∧ -1 ≤ p.2 ∧ p.2 ≤ n ∧ Ty.lefts (ks.drop p.1) p.2 = Ty.left (.mk k m ks) n }, fun p => { T := tOf [(1, tV (vI p.1.2)), (2, .lref 2 0), (5, tV (vI p.1.1))], L := lOf [(2, [(vU8 k, .no), (vI m, .no), (.sl (Ty.vs ks), .no)])], σ := σ, π := π }, fun p => ks.length - p.1.1, ⟨⟨(0, n - 1), by simp, by simp only; omega, by simp only; omega, by rw [Ty.left]; rfl⟩, ?_⟩, ?_⟩
  · refine le_of ⟨?_, .rfl, .rfl, trivial⟩ ⟨⟨_, rfl, .rfl⟩, trivial⟩ rfl (fun _ _ h => h) (fun _ _ h => h)
    show TLe (tV (vI (IntKind.i64.wrap (n - 1)))) _
    rw [wrap_in (by omega) (by omega)]; exact .rfl
  · rintro ⟨⟨i, c⟩, h1, h2, h3, h4⟩
    conv => whnf
    rw [Ty.vs_length]
    cases h5 : decide ((i : Int) < (ks.length : Int))
    · conv => whnf
      simp at h5
      refine ⟨σ, π, fun _ _ h => h, fun _ _ h => h, congrArg Res.ret ?_, rfl, rfl⟩
      · have : ks.drop i = [] := by simp; omega
        simp only [this, Ty.lefts] at h4
        exact congrArg vI h4
    · conv => whnf
      cases h6 : decide (c ≥ 0)
      · conv => whnf
        simp at h6
        exact ⟨σ, π, fun _ _ h => h, fun _ _ h => h, congrArg Res.ret (congrArg vI ((Ty.lefts_neg _ h6).symm.trans h4)), rfl, rfl⟩
      · simp at h5 h6
        obtain ⟨tk, tn, ts, ht⟩ := Ty.at h5
        conv => whnf
        refine ⟨Ty.v (.mk tk tn ts), ⟨by omega, Ty.vs_get ht, rfl⟩, ?_⟩
        conv => whnf
        refine (ih _ (List.mem_of_getElem? ht) (hall _ (List.mem_of_getElem? ht)) c h6 (by simp at h3; omega)).use ?_
        conv => whnf
        have h7 := Ty.left_le (.mk tk tn ts) h6
        simp only at h2 h3 h4
        exact ⟨⟨(i + 1, Ty.left (.mk tk tn ts) c), h5, h7.1, by simp only; omega, by rw [← h4, Ty.lefts_drop ht h6]⟩, le_of ⟨.rfl, .rfl, .succ h5 hl, trivial⟩ ⟨⟨_, rfl, .rfl⟩, trivial⟩ rfl (fun _ _ h => h) (fun _ _ h => h), by show ks.length - (i + 1) < ks.length - i; omega⟩

theorem great1_calls (t : Ty) (ht : t.Ok) : PCall Try.prog 18 [t.v] (vB (decide (t.size > 400))) := by
  obtain ⟨k, n, ks⟩ := t
  intro σ π
  refine acalls_of [] mixed Try.func18 rfl (by kernel_rfl) (by kernel_rfl) ?_
  conv => whnf
  refine (left_calls _ ht 400 (by omega) (by omega)).use ?_
  conv => whnf
  refine ⟨σ, π, fun _ _ h => h, fun _ _ h => h, congrArg Res.ret ?_, rfl, rfl⟩
  · rw [Ty.left_of _ _ (by omega)]
    refine congrArg vB ?_
    rw [decide_eq_decide]
    split <;> omega

mutual
theorem Ty.size_pos : ∀ t : Ty, 0 < t.size
  | .mk _ _ ks => by rw [Ty.size]; omega
end

theorem Ty.sizes_take {ks : List Ty} {i : Nat} {t : Ty} (h : ks[i]? = some t) : Ty.sizes (ks.take (i + 1)) = Ty.sizes (ks.take i) + t.size := by
  have app : ∀ a b : List Ty, Ty.sizes (a ++ b) = Ty.sizes a + Ty.sizes b := fun a b => by
    induction a with
    | nil => simp [Ty.sizes]
    | cons x xs ih => simp [Ty.sizes, ih]; omega
  rw [List.take_add_one, h, app]
  simp [Ty.sizes]

theorem Ty.sizes_mem {ks : List Ty} {t : Ty} (h : t ∈ ks) : t.size ≤ Ty.sizes ks := by
  induction ks with
  | nil => simp at h
  | cons u us ih =>
    rw [Ty.sizes]
    rcases List.mem_cons.1 h with rfl | h
    · omega
    · have := ih h; omega

theorem Ty.sizes_le (ks : List Ty) (i : Nat) : Ty.sizes (ks.take i) ≤ Ty.sizes ks := by
  induction ks generalizing i with
  | nil => simp
  | cons u us ih =>
    cases i with
    | zero => simp [Ty.sizes]
    | succ i => simp only [List.take_succ_cons, Ty.sizes]; have := ih i; omega

theorem size_calls : ∀ t : Ty, t.Ok → t.size ≤ 2 ^ 47 → PCall Try.prog 19 [t.v] (vI t.size) := by
  refine Ty.ind fun k m ks ih ht hs => ?_
  cases ht with
  | mk hk hm hl hall =>
  rw [Ty.size] at hs ⊢
  intro σ π
  refine acalls_of [] mixed Try.func19 rfl (by kernel_rfl) (by kernel_rfl) ?_
  conv => whnf
  refine ⟨{ i : Nat // i ≤ ks.length }, fun i => { T := tOf [(1, .lref 1 0), (3, tV (vI ((1 + Ty.sizes (ks.take i.1) : Nat) : Int))), (7, tV (vI (Ty.vs ks).length)), (8, tV (vI i.1))], L := lOf [(1, [(vU8 k, .no), (vI m, .no), (.sl (Ty.vs ks), .no)])], σ := σ, π := π }, fun i => ks.length - i.1, ⟨⟨0, Nat.zero_le _⟩, ?_⟩, ?_⟩
  · exact le_of ⟨.rfl, .rfl, .rfl, .rfl, trivial⟩ ⟨⟨_, rfl, .rfl⟩, trivial⟩ rfl (fun _ _ h => h) (fun _ _ h => h)
  · rintro ⟨i, h1⟩
    conv => whnf
    rw [Ty.vs_length]
    cases h5 : decide ((i : Int) < (ks.length : Int))
    · conv => whnf
      simp at h5
      exact ⟨σ, π, fun _ _ h => h, fun _ _ h => h, congrArg Res.ret (by rw [List.take_of_length_le h5]), rfl, rfl⟩
    · simp at h5
      obtain ⟨tk, tn, ts, ht⟩ := Ty.at h5
      conv => whnf
      refine ⟨Ty.v (.mk tk tn ts), ⟨by omega, Ty.vs_get ht, rfl⟩, ?_⟩
      conv => whnf
      have h6 := Ty.sizes_mem (List.mem_of_getElem? ht)
      refine (ih _ (List.mem_of_getElem? ht) (hall _ (List.mem_of_getElem? ht)) (by omega)).use ?_
      conv => whnf
      refine ⟨⟨i + 1, h5⟩, le_of ⟨.rfl, ?_, .rfl, .succ h5 hl, trivial⟩ ⟨⟨_, rfl, .rfl⟩, trivial⟩ rfl (fun _ _ h => h) (fun _ _ h => h), by show ks.length - (i + 1) < ks.length - i; omega⟩
      show TLe (tV (vI (IntKind.i64.wrap (((1 + Ty.sizes (ks.take i) : Nat) : Int) + (Ty.size (.mk tk tn ts) : Int))))) _
      have h7 := Ty.sizes_take ht
      have h8 := Ty.sizes_le ks (i + 1)
      rw [wrap_in (by omega) (by omega), show (((1 + Ty.sizes (ks.take i) : Nat) : Int) + (Ty.size (.mk tk tn ts) : Int)) = ((1 + Ty.sizes (ks.take (i + 1)) : Nat) : Int) by omega]
      exact .rfl

def tooGreat (t : Ty) : Bool := decide (t.size > 60)

theorem great_calls (ts : List Ty) (hts : ∀ t ∈ ts, t.Ok) : PCall Try.prog 7 [.sl (Ty.vs ts)] (vB (decide (ts.length > 10) || ts.any tooGreat)) := by
  intro σ π
  refine acalls_of [] mixed Try.func7 rfl (by kernel_rfl) (by kernel_rfl) ?_
  conv => whnf
  rw [Ty.vs_length]
  cases h1 : decide ((ts.length : Int) > 10)
  · simp at h1
    conv => whnf
    refine ⟨Upto ts (fun t => !tooGreat t), fun i => { T := tOf [(0, tV (.sl (Ty.vs ts))), (3, tV (vI i.1))], L := lOf [], σ := σ, π := π }, fun i => ts.length - i.1, ⟨.zero _ _, ?_⟩, ?_⟩
    · exact le_of ⟨.rfl, .rfl, trivial⟩ trivial rfl (fun _ _ h => h) (fun _ _ h => h)
    · rintro i
      conv => whnf
      rw [Ty.vs_length]
      cases h5 : decide ((i.1 : Int) < (ts.length : Int))
      · conv => whnf
        simp at h5
        refine ⟨σ, π, fun _ _ h => h, fun _ _ h => h, congrArg Res.ret ?_, rfl, rfl⟩
        · have := i.done (by omega)
          simp at this ⊢
          refine ⟨by omega, this⟩
      · simp at h5
        obtain ⟨tk, tn, us, ht⟩ := Ty.at h5
        have hm := List.mem_of_getElem? ht
        conv => whnf
        refine ⟨Ty.v (.mk tk tn us), ⟨by omega, Ty.vs_get ht, rfl⟩, ?_⟩
        conv => whnf
        refine (great1_calls _ (hts _ hm)).use ?_
        conv => whnf
        cases h6 : decide ((Ty.mk tk tn us).size > 400)
        · simp only [decide_eq_false_iff_not, Nat.not_lt] at h6
          conv => whnf
          refine ⟨Ty.v (.mk tk tn us), ⟨by omega, Ty.vs_get ht, rfl⟩, ?_⟩
          conv => whnf
          refine (size_calls _ (hts _ hm) (by omega)).use ?_
          conv => whnf
          cases h7 : decide (((Ty.mk tk tn us).size : Int) > 60)
          · conv => whnf
            simp only [decide_eq_false_iff_not, Int.not_lt] at h7
            exact ⟨i.succ ht (by simp [tooGreat]; omega), le_of ⟨.rfl, .succ h5 (by omega), trivial⟩ trivial rfl (fun _ _ h => h) (fun _ _ h => h), by show ts.length - (i.1 + 1) < ts.length - i.1; omega⟩
          · conv => whnf
            simp only [decide_eq_true_eq] at h7
            refine ⟨σ, π, fun _ _ h => h, fun _ _ h => h, congrArg Res.ret ?_, rfl, rfl⟩
            · rw [List.any_eq_true.2 ⟨_, hm, by simp [tooGreat]; omega⟩, Bool.or_true]
        · conv => whnf
          simp only [decide_eq_true_eq] at h6
          refine ⟨σ, π, fun _ _ h => h, fun _ _ h => h, congrArg Res.ret ?_, rfl, rfl⟩
          · rw [List.any_eq_true.2 ⟨_, hm, by simp [tooGreat]; omega⟩, Bool.or_true]
  · conv => whnf
    simp at h1
    refine ⟨σ, π, fun _ _ h => h, fun _ _ h => h, congrArg Res.ret ?_, rfl, rfl⟩
    · have : decide (ts.length > 10) = true := by simp; omega
      rw [this]; rfl
end Go.Lf
