/- The references of layer 8, walked: more. -/
import Derived.Test.YtmdjomilicoobaaUn1
import Derived.Test.YtmdjomilicoobaaLf17
namespace Go.Lf
open Go Go.Proofs
set_option maxRecDepth 10000
set_option maxHeartbeats 1000000

/-- A function that gives a value, and leaves this store as it was. -/
abbrev SCall (P : Program) (f : FuncId) (args : List V) (σ : Store) (π : Toks) (r : V) : Prop := ACalls P f args σ π fun x σ' π' => x = .ret r ∧ σ' = σ ∧ π' = π

theorem SCall.use {P : Program} {f : FuncId} {args : List V} {r : V} {σ : Store} {π : Toks} (h : SCall P f args σ π r) {R : Res → Store → Toks → Prop} (hr : R (.ret r) σ π) : ACalls P f args σ π R :=
  h.mono fun _ _ _ ⟨h1, h2, h3⟩ => by subst h1; subst h2; subst h3; exact hr

theorem TLe.succ {i n : Nat} (h : i < n) (hn : n ≤ 2 ^ 47) : TLe (tV (vI (IntKind.i64.wrap ((i : Int) + 1)))) (tV (vI ((i + 1 : Nat) : Int))) := by
  rw [wrap_succ h hn]; exact .rfl

mutual
def Ty.size : Ty → Nat
  | .mk _ _ ks => 1 + Ty.sizes ks
def Ty.sizes : List Ty → Nat
  | [] => 0
  | t :: ts => Ty.size t + Ty.sizes ts
end

mutual
def Ty.left : Ty → Int → Int
  | .mk _ _ ks, n => Ty.lefts ks (n - 1)
def Ty.lefts : List Ty → Int → Int
  | [], n => n
  | t :: ts, n => if n < 0 then n else Ty.lefts ts (Ty.left t n)
end

theorem Ty.may_mk (k n : Int) (ks : List Ty) : Ty.may (.mk k n ks) = (nodeMay k n ks.length && ks.all Ty.may) := Ty.all_mk ..

theorem may_calls : ∀ t : Ty, t.Ok → PCall Try.prog 15 [t.v] (vB t.may) := by
  refine Ty.ind fun k n ks ih ht => ?_
  cases ht with
  | mk hk hn hl hall =>
  intro σ π
  refine acalls_aw Try.func15 rfl (by kernel_rfl) (by kernel_rfl) ?_
  refine AW.cut [] mixed 3 (ι := Unit) (fun _ => { T := tOf [(1, .lref 1 0), (3, tV (vI (kidsN k)))], L := lOf [(1, [(vU8 k, .no), (vI n, .no), (.sl (Ty.vs ks), .no)])], σ := σ, π := π }) ?_ fun _ => AW.cut [] mixed 1 (ι := { u : Unit // nodeMay k n ks.length = true }) (fun _ => { T := tOf [(1, .lref 1 0)], L := lOf [(1, [(vU8 k, .no), (vI n, .no), (.sl (Ty.vs ks), .no)])], σ := σ, π := π }) ?_ fun ⟨_, hn⟩ => AW.of [] mixed ?_
  · have fin : ∀ {X : St} (m : Int), kidsN k = m → Le X { T := tOf [(1, .lref 1 0), (3, tV (vI m))], L := lOf [(1, [(vU8 k, .no), (vI n, .no), (.sl (Ty.vs ks), .no)])], σ := σ, π := π } → ∃ i : Unit, Le X ((fun _ => { T := tOf [(1, .lref 1 0), (3, tV (vI (kidsN k)))], L := lOf [(1, [(vU8 k, .no), (vI n, .no), (.sl (Ty.vs ks), .no)])], σ := σ, π := π }) i) := fun m h1 h2 => ⟨(), by rw [h1]; exact h2⟩
    conv => whnf
    cases h1 : (k == 1)
    · conv => whnf
      cases h5 : (k == 5)
      · conv => whnf
        cases h3 : (k == 3)
        · conv => whnf
          cases h2 : (k == 2)
          · conv => whnf
            cases h4 : (k == 4)
            · conv => whnf
              exact fin (-1) (by simp at *; simp [kidsN, *]) (le_of ⟨.rfl, .rfl, trivial⟩ ⟨⟨_, rfl, .rfl⟩, trivial⟩ rfl (fun _ _ h => h) (fun _ _ h => h))
            · conv => whnf
              exact fin 2 (by simp at *; simp [kidsN, *]) (le_of ⟨.rfl, .rfl, trivial⟩ ⟨⟨_, rfl, .rfl⟩, trivial⟩ rfl (fun _ _ h => h) (fun _ _ h => h))
          · conv => whnf
            exact fin 2 (by simp at *; simp [kidsN, *]) (le_of ⟨.rfl, .rfl, trivial⟩ ⟨⟨_, rfl, .rfl⟩, trivial⟩ rfl (fun _ _ h => h) (fun _ _ h => h))
        · conv => whnf
          exact fin 1 (by simp at *; simp [kidsN, *]) (le_of ⟨.rfl, .rfl, trivial⟩ ⟨⟨_, rfl, .rfl⟩, trivial⟩ rfl (fun _ _ h => h) (fun _ _ h => h))
      · conv => whnf
        exact fin 0 (by simp at *; simp [kidsN, *]) (le_of ⟨.rfl, .rfl, trivial⟩ ⟨⟨_, rfl, .rfl⟩, trivial⟩ rfl (fun _ _ h => h) (fun _ _ h => h))
    · conv => whnf
      exact fin 0 (by simp at *; simp [kidsN, *]) (le_of ⟨.rfl, .rfl, trivial⟩ ⟨⟨_, rfl, .rfl⟩, trivial⟩ rfl (fun _ _ h => h) (fun _ _ h => h))
  · have bad : nodeMay k n ks.length = false → Ty.may (.mk k n ks) = false := fun h => by rw [Ty.may_mk, h]; rfl
    have fin : ∀ {X : St}, nodeMay k n ks.length = true → Le X { T := tOf [(1, .lref 1 0)], L := lOf [(1, [(vU8 k, .no), (vI n, .no), (.sl (Ty.vs ks), .no)])], σ := σ, π := π } → ∃ i : { u : Unit // nodeMay k n ks.length = true }, Le X ((fun _ => { T := tOf [(1, .lref 1 0)], L := lOf [(1, [(vU8 k, .no), (vI n, .no), (.sl (Ty.vs ks), .no)])], σ := σ, π := π }) i) := fun h1 h2 => ⟨⟨(), h1⟩, h2⟩
    conv => whnf
    rw [Ty.vs_length]
    cases h1 : ((ks.length : Int) != kidsN k)
    · conv => whnf
      cases h2 : decide (n < 0)
      · conv => whnf
        cases h3 : decide (n > 0)
        · conv => whnf
          exact fin (by simp at *; simp [nodeMay, *]) (le_of ⟨.rfl, trivial⟩ ⟨⟨_, rfl, .rfl⟩, trivial⟩ rfl (fun _ _ h => h) (fun _ _ h => h))
        · conv => whnf
          cases h4 : (k != 5)
          · conv => whnf
            exact fin (by simp at *; simp [nodeMay, *]) (le_of ⟨.rfl, trivial⟩ ⟨⟨_, rfl, .rfl⟩, trivial⟩ rfl (fun _ _ h => h) (fun _ _ h => h))
          · conv => whnf
            exact ⟨σ, π, fun _ _ h => h, fun _ _ h => h, congrArg Res.ret (by rw [bad]; simp at *; simp [nodeMay, *]), rfl, rfl⟩
      · skip
        conv => whnf
        exact ⟨σ, π, fun _ _ h => h, fun _ _ h => h, congrArg Res.ret (by rw [bad]; simp at *; simp [nodeMay, *]), rfl, rfl⟩
    · conv => whnf
      exact ⟨σ, π, fun _ _ h => h, fun _ _ h => h, congrArg Res.ret (by rw [bad]; simp at *; simp [nodeMay, *]), rfl, rfl⟩
  · conv => whnf
    refine ⟨Upto ks Ty.may, fun i => { T := tOf [(1, .lref 1 0), (37, tV (vI (Ty.vs ks).length)), (38, tV (vI i.1))], L := lOf [(1, [(vU8 k, .no), (vI n, .no), (.sl (Ty.vs ks), .no)])], σ := σ, π := π }, fun i => ks.length - i.1, ⟨.zero _ _, ?_⟩, fun i => ?_⟩
    · exact le_of ⟨.rfl, .rfl, .rfl, trivial⟩ ⟨⟨_, rfl, .rfl⟩, trivial⟩ rfl (fun _ _ h => h) (fun _ _ h => h)
    · conv => whnf
      rw [Ty.vs_length]
      cases h2 : decide ((i.1 : Int) < (ks.length : Int))
      · conv => whnf
        simp at h2
        exact ⟨σ, π, fun _ _ h => h, fun _ _ h => h, congrArg Res.ret (by rw [Ty.may_mk, hn, i.done (by omega)]; rfl), rfl, rfl⟩
      · simp at h2
        obtain ⟨tk, tn, ts, ht⟩ := Ty.at h2
        conv => whnf
        refine ⟨Ty.v (.mk tk tn ts), ⟨by omega, Ty.vs_get ht, rfl⟩, ?_⟩
        conv => whnf
        refine (ih _ (List.mem_of_getElem? ht) (hall _ (List.mem_of_getElem? ht))).use ?_
        conv => whnf
        cases h3 : Ty.may (.mk tk tn ts)
        · conv => whnf
          exact ⟨σ, π, fun _ _ h => h, fun _ _ h => h, congrArg Res.ret (by rw [Ty.may_mk, all_false ht h3, Bool.and_false]), rfl, rfl⟩
        · conv => whnf
          exact ⟨i.succ ht h3, le_of ⟨.rfl, .rfl, .succ h2 hl, trivial⟩ ⟨⟨_, rfl, .rfl⟩, trivial⟩ rfl (fun _ _ h => h) (fun _ _ h => h), by show ks.length - (i.1 + 1) < ks.length - i.1; omega⟩
end Go.Lf
