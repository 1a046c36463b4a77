/- The sense of a type that is cut where it has too many nodes, without the program. -/
import Derived.Test.YtmdjomilicoobaaUo1
namespace Go.Lf
open Go Go.Proofs

mutual
def Ty.cut : Ty → Int → Ty × Int
  | .mk k n ks, left => (.mk k n (Ty.cuts ks (left - 1)).1, (Ty.cuts ks (left - 1)).2)
def Ty.cuts : List Ty → Int → List Ty × Int
  | [], left => ([], left)
  | t :: ts, left => if left < 0 then ([], left) else ((Ty.cut t left).1 :: (Ty.cuts ts (Ty.cut t left).2).1, (Ty.cuts ts (Ty.cut t left).2).2)
end

mutual
theorem Ty.cut_left : ∀ (t : Ty) (n : Int), (t.cut n).2 = t.left n
  | .mk k m ks, n => by rw [Ty.cut, Ty.left]; exact Ty.cuts_left ks (n - 1)
theorem Ty.cuts_left : ∀ (ks : List Ty) (n : Int), (Ty.cuts ks n).2 = Ty.lefts ks n
  | [], n => by simp [Ty.cuts, Ty.lefts]
  | t :: ts, n => by
    rw [Ty.cuts, Ty.lefts]
    split
    · rfl
    · simp only []; rw [Ty.cuts_left ts, Ty.cut_left t]
end

mutual
theorem Ty.cut_fit : ∀ (t : Ty) (n : Int), (t.size : Int) ≤ n → (t.cut n).1 = t
  | .mk k m ks, n, h => by
    rw [Ty.size] at h
    rw [Ty.cut]; simp only []; rw [Ty.cuts_fit ks (n - 1) (by omega)]
theorem Ty.cuts_fit : ∀ (ks : List Ty) (n : Int), (Ty.sizes ks : Int) ≤ n → (Ty.cuts ks n).1 = ks
  | [], n, h => by simp [Ty.cuts]
  | t :: ts, n, h => by
    rw [Ty.sizes] at h
    have h1 := Ty.left_of t n (by omega)
    rw [if_neg (by omega)] at h1
    rw [Ty.cuts, if_neg (by omega)]; simp only []
    rw [Ty.cut_fit t n (by omega), Ty.cut_left, h1, Ty.cuts_fit ts _ (by omega)]
end

theorem Ty.cuts_neg (ks : List Ty) {n : Int} (h : n < 0) : Ty.cuts ks n = ([], n) := by cases ks <;> simp [Ty.cuts, h]

theorem Ty.cuts_drop {ks : List Ty} {i : Nat} {t : Ty} {n : Int} (h : ks[i]? = some t) (hn : 0 ≤ n) :
    Ty.cuts (ks.drop i) n = ((t.cut n).1 :: (Ty.cuts (ks.drop (i + 1)) (t.cut n).2).1, (Ty.cuts (ks.drop (i + 1)) (t.cut n).2).2) := by
  rw [List.drop_eq_getElem_cons (List.getElem?_eq_some_iff.1 h).1, (List.getElem?_eq_some_iff.1 h).2, Ty.cuts, if_neg (by omega)]

theorem Ty.cut_le (t : Ty) {n : Int} (h : 0 ≤ n) : -1 ≤ (t.cut n).2 ∧ (t.cut n).2 ≤ n := by
  rw [Ty.cut_left]; exact Ty.left_le t h
end Go.Lf
