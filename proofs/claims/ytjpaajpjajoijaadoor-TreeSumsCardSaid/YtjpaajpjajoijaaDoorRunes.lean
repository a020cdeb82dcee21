/- A part's signs, rune by rune and byte by byte; cuts at the first and at the last stroke. Plain law. -/
import Derived.Test.YtjpaajpjajoijaaDoorPaths
import Derived.Test.YtjpaajpjajoijaaDoorParts
import Derived.Shelf.GgClosure.StringsIndexFunc
import Derived.Lib.TrimU
import Derived.Lib.Bytealg
namespace Go.Proofs.YtjpaajpjajoijaaDoor
set_option linter.unusedVariables false
open Go.Lib
/-- May a part have the rune? -/
def runeSign (x : Nat) : Bool := (97 ≤ x && x ≤ 122) || (65 ≤ x && x ≤ 90) || (48 ≤ x && x ≤ 57) || x == 95 || x == 46 || x == 45 || x == 43
theorem runeSign_byte (c : UInt8) : runeSign c.toNat = okSign c := by
  unfold runeSign okSign
  have h1 : ∀ k : UInt8, decide (k.toNat ≤ c.toNat) = decide (k ≤ c) := fun k => by simp [UInt8.le_iff_toNat_le]
  have h2 : ∀ k : UInt8, decide (c.toNat ≤ k.toNat) = decide (c ≤ k) := fun k => by simp [UInt8.le_iff_toNat_le]
  have h3 : ∀ k : UInt8, (c.toNat == k.toNat) = (c == k) := fun k => by
    rw [Bool.eq_iff_iff, beq_iff_eq, beq_iff_eq, UInt8.toNat_inj]
  have a1 := h1 97; have a2 := h1 65; have a3 := h1 48; have b1 := h2 122; have b2 := h2 90; have b3 := h2 57; have c1 := h3 95; have c2 := h3 46; have c3 := h3 45; have c4 := h3 43
  simp only [UInt8.reduceToNat] at a1 a2 a3 b1 b2 b3 c1 c2 c3 c4
  rw [a1, a2, a3, b1, b2, b3, c1, c2, c3, c4]
theorem runeSign_small {x : Nat} (h : runeSign x = true) : x < 128 := by
  unfold runeSign at h
  simp at h
  omega
theorem decodeN_sign (n b0 b1 b2 b3 : Nat) (h : runeSign (decodeN n b0 b1 b2 b3).1 = true) : decodeN n b0 b1 b2 b3 = (b0, 1) := by
  have h2 := runeSign_small h
  by_cases h0 : b0 < 128
  · unfold decodeN
    rw [if_pos h0]
  · exfalso
    revert h2
    unfold decodeN
    rw [if_neg h0]
    repeat' split
    all_goals (simp only; omega)
theorem get_eq (s : ByteArray) (i : Nat) (h : i < s.size) : s.get! i = s.data.toList[i]'(by simpa using h) := by
  obtain ⟨⟨l⟩⟩ := s
  have h2 : i < l.length := h
  show (Array.mk l)[i]! = l[i]
  simp [h2]
theorem drop_all {l : List UInt8} {i : Nat} (h : i < l.length) (p : UInt8 → Bool) : (l.drop i).all p = (p (l[i]'h) && (l.drop (i + 1)).all p) := by
  rw [List.drop_eq_getElem_cons h, List.all_cons]
theorem runes_from (s : ByteArray) : ∀ (f pos : Nat), s.size ≤ pos + f → decide (0 ≤ idxFuncFrom (fun x => !runeSign x) true s f pos) = !((s.data.toList.drop pos).all okSign)
  | 0, pos, h => by
    rw [List.drop_of_length_le (by simpa using h)]
    rfl
  | f + 1, pos, h => by
    unfold idxFuncFrom
    by_cases hp : pos < s.size
    · have hl : pos < s.data.toList.length := by simpa using hp
      rw [if_pos hp, drop_all hl]
      by_cases hr : runeSign (Utf8.decode s pos).1 = true
      · have hd : Utf8.decode s pos = ((s.get! pos).toNat, 1) := by
          rw [decode_at] at hr ⊢
          exact decodeN_sign _ _ _ _ _ hr
        rw [hd] at hr ⊢
        simp only at hr ⊢
        rw [hr, if_neg (by simp), runes_from s f (pos + 1) (by omega)]
        rw [runeSign_byte, get_eq s pos hp] at hr
        rw [hr, Bool.true_and]
      · rw [Bool.not_eq_true] at hr
        rw [hr, if_pos (show (!false) = true from rfl)]
        have hno : okSign (s.data.toList[pos]'hl) = false := by
          cases ho : okSign (s.data.toList[pos]'hl) with
          | false => rfl
          | true =>
            rw [← get_eq s pos hp, ← runeSign_byte] at ho
            have h3 := runeSign_small ho
            rw [decode_at] at hr
            unfold decodeN at hr
            rw [if_pos h3] at hr
            rw [ho] at hr
            exact absurd hr (by simp)
        rw [hno]
        simp
    · rw [if_neg hp, List.drop_of_length_le (by simpa using hp)]
      rfl
theorem runes_all (s : ByteArray) : decide (0 ≤ idxFunc (fun x => !runeSign x) true s) = !(s.data.toList.all okSign) := by
  unfold idxFunc
  rw [runes_from s s.size 0 (by omega), List.drop_zero]
/-- The parts that the document's loop tells are these. -/
theorem parts_fold_split : ∀ (l : List UInt8) (p : List (List UInt8)) (x : List UInt8),
    l.foldl (fun p c => if c = 47 then p ++ [[]] else p.dropLast ++ [p.getLast?.getD [] ++ [c]]) (p ++ [x]) = p ++ (match splitS l with | [] => [x] | y :: ys => (x ++ y) :: ys)
  | [], p, x => by simp [splitS]
  | c :: l, p, x => by
    rw [List.foldl_cons]
    by_cases hc : c = 47
    · subst hc
      rw [if_pos rfl, parts_fold_split l (p ++ [x]) [], splitS_stroke]
      cases hs : splitS l with
      | nil => exact absurd hs (splitS_ne l)
      | cons y ys => simp
    · rw [if_neg hc]
      obtain ⟨y, ys, h1, h2⟩ := splitS_cons_other l hc
      rw [List.dropLast_concat, List.getLast?_concat, Option.getD_some, parts_fold_split l p (x ++ [c]), h1, h2]
      simp
theorem partsTo_eq (l : List UInt8) : partsTo l = splitS l := by
  unfold partsTo
  have h := parts_fold_split l [] []
  rw [List.nil_append] at h
  rw [h]
  cases hs : splitS l with
  | nil => exact absurd hs (splitS_ne l)
  | cons y ys => simp
/-- The first stroke. -/
theorem splitS_first_none : ∀ (l : List UInt8), indexByte l 47 = -1 → splitS l = [l]
  | [], _ => rfl
  | c :: l, h => by
    unfold indexByte at h
    by_cases hc : c = 47
    · subst hc
      simp at h
    · rw [if_neg (by simpa using hc)] at h
      by_cases h2 : indexByte l 47 = -1
      · obtain ⟨x, xs, h3, h4⟩ := splitS_cons_other l hc
        rw [splitS_first_none l h2] at h3
        simp only [List.cons.injEq] at h3
        obtain ⟨rfl, rfl⟩ := h3
        exact h4
      · rw [if_neg (by simpa using h2)] at h
        have := indexByte_ge l 47
        omega
theorem splitS_first_some : ∀ (l : List UInt8) (i : Nat), indexByte l 47 = i → i < l.length ∧ splitS l = l.take i :: splitS (l.drop (i + 1))
  | [], i, h => by
    unfold indexByte at h
    omega
  | c :: l, i, h => by
    unfold indexByte at h
    by_cases hc : c = 47
    · subst hc
      simp at h
      have : i = 0 := by omega
      subst this
      exact ⟨by simp, splitS_stroke l⟩
    · rw [if_neg (by simpa using hc)] at h
      by_cases h2 : indexByte l 47 = -1
      · rw [h2] at h
        simp at h
      · rw [if_neg (by simpa using h2)] at h
        have h3 := indexByte_ge l 47
        obtain ⟨j, rfl⟩ : ∃ j, i = j + 1 := ⟨i - 1, by omega⟩
        obtain ⟨h4, h5⟩ := splitS_first_some l j (by omega)
        obtain ⟨x, xs, h6, h7⟩ := splitS_cons_other l hc
        rw [h5] at h6
        simp only [List.cons.injEq] at h6
        obtain ⟨rfl, rfl⟩ := h6
        exact ⟨by simp; omega, by rw [h7]; simp⟩
/-- The last stroke. -/
theorem lastIdx_none (l : List UInt8) (c : UInt8) : ∀ k, Pa.lastIdx l c k = -1 → ∀ j, j < k → l[j]? ≠ some c
  | 0, _, j, hj => by omega
  | k + 1, h, j, hj => by
    unfold Pa.lastIdx at h
    by_cases hk : l[k]? = some c
    · rw [if_pos hk] at h; omega
    · rw [if_neg hk] at h
      by_cases e : j = k
      · subst e; exact hk
      · exact lastIdx_none l c k h j (by omega)
theorem lastIdx_some (l : List UInt8) (c : UInt8) : ∀ k (i : Nat), Pa.lastIdx l c k = i → i < k ∧ l[i]? = some c ∧ ∀ j, i < j → j < k → l[j]? ≠ some c
  | 0, i, h => by unfold Pa.lastIdx at h; omega
  | k + 1, i, h => by
    unfold Pa.lastIdx at h
    by_cases hk : l[k]? = some c
    · rw [if_pos hk] at h
      have : i = k := by omega
      subst this
      exact ⟨by omega, hk, fun j h1 h2 => by omega⟩
    · rw [if_neg hk] at h
      obtain ⟨h1, h2, h3⟩ := lastIdx_some l c k i h
      refine ⟨by omega, h2, fun j h4 h5 => ?_⟩
      by_cases e : j = k
      · subst e; exact hk
      · exact h3 j h4 (by omega)
theorem splitS_last_none (l : List UInt8) (h : Pa.lastIndexByte l 47 = -1) : splitS l = [l] := by
  refine splitS_plain l fun c hc hcc => ?_
  subst hcc
  obtain ⟨j, hj, he⟩ := List.getElem_of_mem hc
  exact lastIdx_none l 47 l.length h j hj (by rw [List.getElem?_eq_getElem hj, he])
theorem splitS_last_some (l : List UInt8) (i : Nat) (h : Pa.lastIndexByte l 47 = i) : i < l.length ∧ splitS l = splitS (l.take i) ++ [l.drop (i + 1)] := by
  obtain ⟨h1, h2, h3⟩ := lastIdx_some l 47 l.length i h
  refine ⟨h1, ?_⟩
  have h4 : l = l.take i ++ 47 :: l.drop (i + 1) := by
    rw [List.getElem?_eq_getElem h1] at h2
    have := List.drop_eq_getElem_cons h1
    rw [Option.some.inj h2] at this
    rw [← this, List.take_append_drop]
  conv => lhs; rw [h4]
  rw [splitS_append, splitS_plain (l.drop (i + 1))]
  intro c hc hcc
  subst hcc
  obtain ⟨j, hj, he⟩ := List.getElem_of_mem hc
  rw [List.length_drop] at hj
  rw [List.getElem_drop] at he
  exact h3 (i + 1 + j) (by omega) (by omega) (by rw [List.getElem?_eq_getElem (by omega), he])
/-- The directory and the last part, by the last stroke. -/
theorem dirL_last_none {l : List UInt8} (hp : okPath l = true) (h : Pa.lastIndexByte l 47 = -1) : dirL l = [] ∧ baseL l = l := by
  unfold dirL baseL
  rw [if_pos hp, if_pos hp, splitS_last_none l h]
  exact ⟨rfl, rfl⟩
theorem dirL_last_some {l : List UInt8} (hp : okPath l = true) {i : Nat} (h : Pa.lastIndexByte l 47 = i) : dirL l = l.take i ∧ baseL l = l.drop (i + 1) := by
  unfold dirL baseL
  rw [if_pos hp, if_pos hp, (splitS_last_some l i h).2]
  rw [List.dropLast_concat, joinS_split, List.getLast?_concat]
  exact ⟨rfl, rfl⟩
theorem dirL_not {l : List UInt8} (hp : okPath l = false) : dirL l = [] ∧ baseL l = [] := by
  unfold dirL baseL
  rw [if_neg (by rw [hp]; simp), if_neg (by rw [hp]; simp)]
  exact ⟨rfl, rfl⟩
end Go.Proofs.YtjpaajpjajoijaaDoor
