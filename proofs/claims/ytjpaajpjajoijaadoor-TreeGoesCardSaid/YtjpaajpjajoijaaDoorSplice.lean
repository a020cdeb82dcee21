/- Lists overwritten in the middle. -/
import Derived.Test.YtjpaajpjajoijaaDoorRow
namespace Go.Proofs.YtjpaajpjajoijaaDoor
theorem splice_get {α : Type} (L : List α) (off : Nat) (cs : List α) (h : off + cs.length ≤ L.length) (j : Nat) :
    (splice L off cs)[j]? = if j < off then L[j]? else if j < off + cs.length then cs[j - off]? else L[j]? := by
  unfold splice
  have hl : (L.take off).length = off := by rw [List.length_take]; omega
  by_cases h1 : j < off
  · rw [if_pos h1, List.getElem?_append_left (by omega), List.getElem?_take, if_pos h1]
  · rw [if_neg h1, List.getElem?_append_right (by omega), hl]
    by_cases h2 : j < off + cs.length
    · rw [if_pos h2, List.getElem?_append_left (by omega)]
    · rw [if_neg h2, List.getElem?_append_right (by omega), List.getElem?_drop]
      congr 1
      omega
theorem three_get {α : Type} (X Y Z : List α) (j : Nat) :
    (X ++ (Y ++ Z))[j]? = if j < X.length then X[j]? else if j < X.length + Y.length then Y[j - X.length]? else Z[j - (X.length + Y.length)]? := by
  by_cases h1 : j < X.length
  · rw [if_pos h1, List.getElem?_append_left h1]
  · rw [if_neg h1, List.getElem?_append_right (by omega)]
    by_cases h2 : j < X.length + Y.length
    · rw [if_pos h2, List.getElem?_append_left (by omega)]
    · rw [if_neg h2, List.getElem?_append_right (by omega), Nat.sub_sub]
theorem take_get {α : Type} {cur X : List α} {a : Nat} (h : cur.take a = X) (j : Nat) (hj : j < a) : cur[j]? = X[j]? := by
  rw [← h, List.getElem?_take, if_pos hj]
/-- First the end moved, then the middle. -/
theorem splice_shift {α : Type} (cur X Y Z : List α) (a b n : Nat) (ha : X.length = a) (hb : Y.length = b) (hX : cur.take a = X) (hn : n = a + b + Z.length) (hl : n ≤ cur.length) :
    (splice (splice cur (a + b) Z) a Y).take n = X ++ (Y ++ Z) := by
  apply List.ext_getElem?
  intro j
  have l1 : (splice cur (a + b) Z).length = cur.length := length_splice _ _ _ (by omega)
  rw [List.getElem?_take, splice_get _ _ _ (by omega), splice_get _ _ _ (by omega), three_get, ha, hb]
  by_cases h1 : j < a
  · rw [if_pos (by omega), if_pos h1, if_pos (by omega), if_pos h1, take_get hX j h1]
  · rw [if_neg h1, if_neg h1]
    by_cases h2 : j < a + b
    · rw [if_pos (by omega), if_pos h2, if_pos h2]
    · rw [if_neg h2, if_neg h2, if_neg h2]
      by_cases h3 : j < n
      · rw [if_pos h3, if_pos (by omega)]
      · rw [if_neg h3, List.getElem?_eq_none (by omega)]
/-- First the middle, then the end. -/
theorem splice_fill {α : Type} (cur X Y Z : List α) (a b n : Nat) (ha : X.length = a) (hb : Y.length = b) (hX : cur.take a = X) (hn : n = a + b + Z.length) (hl : n ≤ cur.length) :
    (splice (splice cur a Y) (a + b) Z).take n = X ++ (Y ++ Z) := by
  apply List.ext_getElem?
  intro j
  have l1 : (splice cur a Y).length = cur.length := length_splice _ _ _ (by omega)
  rw [List.getElem?_take, splice_get _ _ _ (by omega), splice_get _ _ _ (by omega), three_get, ha, hb]
  by_cases h1 : j < a
  · rw [if_pos (by omega), if_pos (by omega), if_pos h1, if_pos h1, take_get hX j h1]
  · rw [if_neg h1, if_neg h1]
    by_cases h2 : j < a + b
    · rw [if_pos (by omega), if_pos h2, if_pos h2, if_pos h2]
    · simp only [if_neg h2]
      by_cases h3 : j < n
      · rw [if_pos h3, if_pos (by omega)]
      · rw [if_neg h3, List.getElem?_eq_none (by omega)]
/-- One in the middle. -/
theorem splice_mid {α : Type} (cur X Y Z : List α) (a b n : Nat) (ha : X.length = a) (hb : Y.length = b) (L : List α) (hL : cur.take n = L) (hn : L.length = n) (hX : L.take a = X) (hZ : L.drop (a + b) = Z) (hl : n ≤ cur.length) (hab : a + b ≤ n) :
    (splice cur a Y).take n = X ++ (Y ++ Z) := by
  apply List.ext_getElem?
  intro j
  rw [List.getElem?_take, splice_get _ _ _ (by omega), three_get, ha, hb, ← hX, ← hZ]
  by_cases h1 : j < a
  · rw [if_pos (by omega), if_pos h1, if_pos h1, List.getElem?_take, if_pos h1, take_get hL j (by omega)]
  · rw [if_neg h1, if_neg h1]
    by_cases h2 : j < a + b
    · rw [if_pos (by omega), if_pos h2, if_pos h2]
    · rw [if_neg h2, if_neg h2, List.getElem?_drop, show a + b + (j - (a + b)) = j from by omega]
      by_cases h3 : j < n
      · rw [if_pos h3, take_get hL j h3]
      · rw [if_neg h3, List.getElem?_eq_none (by omega)]
end Go.Proofs.YtjpaajpjajoijaaDoor
