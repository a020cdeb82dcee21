/- bloomeryref03.Part: is a text a part? -/
import Derived.Test.YtjpaajpjajoijaaDoorRunes
namespace Go.Proofs.YtjpaajpjajoijaaDoor
set_option linter.unusedVariables false
open Go.RowKit
/-- The kinds of bytes. -/
theorem byte_kinds (x : Int) : x < 43 ∨ x = 43 ∨ x = 44 ∨ x = 45 ∨ x = 46 ∨ x = 47 ∨ (48 ≤ x ∧ x ≤ 57) ∨ (58 ≤ x ∧ x ≤ 64) ∨ (65 ≤ x ∧ x ≤ 90) ∨ (91 ≤ x ∧ x ≤ 94) ∨ x = 95 ∨ x = 96 ∨ (97 ≤ x ∧ x ≤ 122) ∨ 123 ≤ x := by omega
theorem runeSign_yes {x : Nat} (h : (97 ≤ x ∧ x ≤ 122) ∨ (65 ≤ x ∧ x ≤ 90) ∨ (48 ≤ x ∧ x ≤ 57) ∨ x = 95 ∨ x = 46 ∨ x = 45 ∨ x = 43) : runeSign x = true := by
  unfold runeSign; simp; omega
theorem runeSign_no {x : Nat} (h : ¬ ((97 ≤ x ∧ x ≤ 122) ∨ (65 ≤ x ∧ x ≤ 90) ∨ (48 ≤ x ∧ x ≤ 57) ∨ x = 95 ∨ x = 46 ∨ x = 45 ∨ x = 43)) : runeSign x = false := by
  unfold runeSign; simp; omega
theorem okSign_of {c : UInt8} (b : Bool) (h : runeSign c.toNat = b) : okSign c = b := by rw [← runeSign_byte]; exact h
theorem okPart_of {s : ByteArray} (h1 : s.toList.isEmpty = false) (h2 : (s.toList == [46]) = false) (h3 : (s.toList == [46, 46]) = false) (h4 : s.size ≤ 64) : okPart s.data.toList = s.data.toList.all okSign := by
  rw [ByteArray.toList_eq] at h1 h2 h3
  unfold okPart
  have e1 : (s.data.toList == []) = false := by
    cases hl : s.data.toList with
    | nil => rw [hl] at h1; cases h1
    | cons a l => rfl
  rw [e1, h2, h3, show decide (64 < s.data.toList.length) = false from decide_eq_false (by have : s.data.toList.length = s.size := rfl; omega)]
  simp
theorem okPart_no {s : ByteArray} (h : s.toList.isEmpty = true ∨ (s.toList == [46]) = true ∨ (s.toList == [46, 46]) = true ∨ 64 < s.size) : okPart s.data.toList = false := by
  rw [ByteArray.toList_eq] at h
  unfold okPart
  rcases h with h | h | h | h
  · rw [List.isEmpty_iff.1 h]; rfl
  · rw [h]; simp
  · rw [h]; simp
  · rw [show decide (64 < s.data.toList.length) = true from decide_eq_true h]; simp
theorem take_all_succ (l : List UInt8) (p : UInt8 → Bool) (k : Nat) (h : k < l.length) (ha : (l.take k).all p = true) (hk : p (l[k]'h) = true) : (l.take (k + 1)).all p = true := by
  rw [List.take_succ_eq_append_getElem h, List.all_append, ha]
  simp [hk]
theorem take_all_not (l : List UInt8) (p : UInt8 → Bool) (k : Nat) (h : k < l.length) (hk : p (l[k]'h) = false) : l.all p = false := by
  rw [Bool.eq_false_iff]
  intro h2
  have := List.all_eq_true.1 h2 _ (List.getElem_mem h)
  rw [hk] at this
  cases this
set_option maxHeartbeats 1000000 in
set_option maxRecDepth 100000 in
theorem rpart_any (s : ByteArray) (w : World) (hs : s.size ≤ maxLen) :
    Calls Tryd.prog 47 #[.string s] w fun e w' => e = .returned (.bool (okPart s.data.toList)) ∧ w = w' := by
  unfold maxLen at hs
  cases c1 : s.toList.isEmpty with
  | true =>
    have H := Lib.hid (okPart_no (.inl c1))
    have d1 : s.toList = [] := List.isEmpty_iff.1 c1
    go_enter Tryd.func47, Tryd.ntmps47
    go_wp2
    go_ret
    exact ⟨by rw [H.out]; rfl, rfl⟩
  | false =>
  have d1 : ¬ s.toList = [] := fun h => by rw [h] at c1; cases c1
  cases c2 : s.toList == [46] with
  | true =>
    have H := Lib.hid (okPart_no (.inr (.inl c2)))
    have d2 : s.toList = [46] := beq_iff_eq.1 c2
    go_enter Tryd.func47, Tryd.ntmps47
    go_wp2
    go_ret
    exact ⟨by rw [H.out]; rfl, rfl⟩
  | false =>
  have d2 : ¬ s.toList = [46] := beq_eq_false_iff_ne.1 c2
  cases c3 : s.toList == [46, 46] with
  | true =>
    have H := Lib.hid (okPart_no (.inr (.inr (.inl c3))))
    have d3 : s.toList = [46, 46] := beq_iff_eq.1 c3
    go_enter Tryd.func47, Tryd.ntmps47
    go_wp2
    go_ret
    exact ⟨by rw [H.out]; rfl, rfl⟩
  | false =>
  have d3 : ¬ s.toList = [46, 46] := beq_eq_false_iff_ne.1 c3
  by_cases c4 : 64 < s.size
  · have H := Lib.hid (okPart_no (.inr (.inr (.inr c4))))
    go_enter Tryd.func47, Tryd.ntmps47
    go_wp2
    go_ret
    exact ⟨by rw [H.out]; rfl, rfl⟩
  · have H := Lib.hid (okPart_of c1 c2 c3 (by omega))
    go_enter Tryd.func47, Tryd.ntmps47
    go_wp2
    go_loop [3, 4, 5] (fun i _ _ => ∃ k : Nat, k ≤ s.size ∧ i = .int .i64 k ∧ Hid ((s.data.toList.take k).all okSign = true)) (fun i _ _ => s.size - (intOf i).toNat)
    case atStart => exact ⟨0, by omega, rfl, Lib.hid rfl⟩
    case round =>
      obtain ⟨k, hk, rfl, hh⟩ := hrel
      clear c1 c2 c3 d1 d2 d3
      by_cases hlt : k < s.size
      · have hs1 := fun h => take_all_succ s.data.toList okSign k hlt hh.out h
        have hs2 := take_all_not s.data.toList okSign k hlt
        have hb1 := okSign_of (c := s.data.toList[k]'hlt) true
        have hb2 := okSign_of (c := s.data.toList[k]'hlt) false
        have e : s.data.toList[k]'hlt = s[k] := rfl
        rw [e] at hs1 hs2 hb1 hb2
        have HS1 := Lib.hid hs1
        have HS2 := Lib.hid hs2
        have HB1 := Lib.hid hb1
        have HB2 := Lib.hid hb2
        clear hs1 hs2 hb1 hb2 e
        have hk8 : 0 ≤ (s[k].toNat : Int) := by omega
        rcases byte_kinds (s[k].toNat : Int) with h | h | h | h | h | h | ⟨h, h'⟩ | ⟨h, h'⟩ | ⟨h, h'⟩ | ⟨h, h'⟩ | h | h | ⟨h, h'⟩ | h
        all_goals try have q1 : ((s[k].toNat : Int) != 95) = true := by rw [bne_iff_ne]; omega
        all_goals try have q2 : ((s[k].toNat : Int) != 46) = true := by rw [bne_iff_ne]; omega
        all_goals try have q3 : ((s[k].toNat : Int) != 45) = true := by rw [bne_iff_ne]; omega
        all_goals try have q4 : ((s[k].toNat : Int) != 43) = true := by rw [bne_iff_ne]; omega
        all_goals try have r1 : decide ((s[k].toNat : Int) ≤ 57) = true := decide_eq_true (by omega)
        all_goals try have r1 : decide ((s[k].toNat : Int) ≤ 57) = false := decide_eq_false (by omega)
        all_goals try have r2 : decide ((s[k].toNat : Int) ≤ 90) = true := decide_eq_true (by omega)
        all_goals try have r2 : decide ((s[k].toNat : Int) ≤ 90) = false := decide_eq_false (by omega)
        all_goals try have r3 : decide ((s[k].toNat : Int) ≤ 122) = true := decide_eq_true (by omega)
        all_goals try have r3 : decide ((s[k].toNat : Int) ≤ 122) = false := decide_eq_false (by omega)
        all_goals go_wp2
        all_goals first
          | (go_ret
             exact ⟨by rw [H.out, HS2.out (HB2.out (runeSign_no (by omega)))]; rfl, rfl⟩)
          | (go_round
             case rel => exact ⟨k + 1, by omega, by go_num, Lib.hid (HS1.out (HB1.out (runeSign_yes (by omega))))⟩
             case measure => simp [intOf]; omega)
      · have hfin : s.data.toList.take k = s.data.toList := List.take_of_length_le (by simp; omega)
        have HF := Lib.hid hfin
        clear hfin
        go_wp2
        go_ret
        exact ⟨by rw [H.out, ← HF.out, hh.out]; rfl, rfl⟩
end Go.Proofs.YtjpaajpjajoijaaDoor
