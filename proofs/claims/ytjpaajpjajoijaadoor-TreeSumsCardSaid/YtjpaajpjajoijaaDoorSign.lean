/- path.sign, path.part: may a part have it; is a text a part? -/
import Derived.Test.YtjpaajpjajoijaaDoorMay
import Derived.Test.YtjpaajpjajoijaaDoorShelf
namespace Go.Proofs.YtjpaajpjajoijaaDoor
set_option linter.unusedVariables false
open Go.RowKit
theorem index_signs (x : Nat) (h : x < 128) : Go.Lib.indexByte [95, 46, 45, 43] ((x : Int).toNat.toUInt8) = if x = 95 then 0 else if x = 46 then 1 else if x = 45 then 2 else if x = 43 then 3 else -1 := by
  have e : ∀ k : Fin 128, Go.Lib.indexByte [95, 46, 45, 43] (((k.val : Nat) : Int).toNat.toUInt8) = if k.val = 95 then 0 else if k.val = 46 then 1 else if k.val = 45 then 2 else if k.val = 43 then 3 else -1 := by decide +kernel
  exact e ⟨x, h⟩
theorem idx_signs (x : Nat) (h : x < 128) (w : World) : Calls Tryd.prog 99 #[.string ⟨#[95, 46, 45, 43]⟩, .int .u8 (x : Int)] w fun e w' => e = .returned (.int .i64 (if x = 95 then 0 else if x = 46 then 1 else if x = 45 then 2 else if x = 43 then 3 else -1)) ∧ w' = w := by
  have := Tryd.strings_IndexByte ⟨#[95, 46, 45, 43]⟩ (x : Int) w
  rw [← index_signs x h]
  exact this
set_option maxHeartbeats 1000000 in
set_option maxRecDepth 100000 in
theorem sign_any (x : Nat) (hx : x ≤ 1114111) (w : World) :
    Calls Tryd.prog 83 #[.int .i32 (x : Int)] w fun e w' => e = .returned (.bool (runeSign x)) ∧ w' = w := by
  by_cases h128 : x < 128
  · have hi := fun w => idx_signs x h128 w
    by_cases h1 : 97 ≤ x ∧ x ≤ 122
    · have H := Lib.hid (runeSign_yes (x := x) (by omega))
      obtain ⟨a, b⟩ := h1
      have r1 : decide ((x : Int) ≤ 122) = true := decide_eq_true (by omega)
      go_enter Tryd.func83, Tryd.ntmps83
      go_wp2
      go_ret
      exact ⟨by rw [H.out]; rfl, rfl⟩
    by_cases h2 : 65 ≤ x ∧ x ≤ 90
    · have H := Lib.hid (runeSign_yes (x := x) (by omega))
      obtain ⟨a, b⟩ := h2
      have r1 : decide ((x : Int) ≤ 90) = true := decide_eq_true (by omega)
      go_enter Tryd.func83, Tryd.ntmps83
      go_wp2
      go_ret
      exact ⟨by rw [H.out]; rfl, rfl⟩
    by_cases h3 : 48 ≤ x ∧ x ≤ 57
    · have H := Lib.hid (runeSign_yes (x := x) (by omega))
      obtain ⟨a, b⟩ := h3
      have r1 : decide ((x : Int) ≤ 57) = true := decide_eq_true (by omega)
      go_enter Tryd.func83, Tryd.ntmps83
      go_wp2
      go_ret
      exact ⟨by rw [H.out]; rfl, rfl⟩
    · obtain ⟨i, hie⟩ : ∃ i : Int, i = if x = 95 then 0 else if x = 46 then 1 else if x = 45 then 2 else if x = 43 then 3 else -1 := ⟨_, rfl⟩
      rw [← hie] at hi
      have hib : decide (0 ≤ i) = runeSign x := by
        rw [hie]
        unfold runeSign
        rw [Bool.eq_iff_iff]
        simp
        split <;> (try split) <;> (try split) <;> (try split) <;> simp <;> omega
      have HI := Lib.hid hi
      have HB := Lib.hid hib
      clear hi hie hib
      have hk : (x : Int) < 48 ∨ (58 ≤ (x : Int) ∧ (x : Int) ≤ 64) ∨ (91 ≤ (x : Int) ∧ (x : Int) ≤ 96) ∨ 123 ≤ (x : Int) := by omega
      have hx8 : (x : Int) < 128 := by omega
      clear h1 h2 h3 h128
      rcases hk with h | ⟨h, h'⟩ | ⟨h, h'⟩ | h
      all_goals try have r1 : decide ((x : Int) ≤ 57) = false := decide_eq_false (by omega)
      all_goals try have r2 : decide ((x : Int) ≤ 90) = false := decide_eq_false (by omega)
      all_goals try have r3 : decide ((x : Int) ≤ 122) = false := decide_eq_false (by omega)
      all_goals
        go_enter Tryd.func83, Tryd.ntmps83
        go_wp2_with (go_at_call 99; refine (HI.out _).mono ?_; rintro e w' ⟨rfl, rfl⟩)
        go_ret
        exact ⟨by rw [← HB.out]; rfl, rfl⟩
  · have H := Lib.hid (runeSign_no (x := x) (by omega))
    have hx8 : 128 ≤ (x : Int) := by omega
    have r1 : decide ((x : Int) ≤ 57) = false := decide_eq_false (by omega)
    have r2 : decide ((x : Int) ≤ 90) = false := decide_eq_false (by omega)
    have r3 : decide ((x : Int) ≤ 122) = false := decide_eq_false (by omega)
    go_enter Tryd.func83, Tryd.ntmps83
    go_wp2
    go_ret
    exact ⟨by rw [H.out]; rfl, rfl⟩
theorem lit_any (x : Nat) (hx : x ≤ 1114111) (w : World) :
    Calls Tryd.prog 82 #[.int .i32 (x : Int)] w fun e w' => e = .returned (.bool (!runeSign x)) ∧ w' = w := by
  have hs := fun w => sign_any x hx w
  obtain ⟨b, hb⟩ : ∃ b, b = runeSign x := ⟨_, rfl⟩
  rw [← hb] at hs ⊢
  have HS := Lib.hid hs
  clear hs hb
  go_enter Tryd.func82, Tryd.ntmps82
  go_wp2_with (go_at_call 83; refine (HS.out _).mono ?_; rintro e w' ⟨rfl, rfl⟩)
  go_ret
  exact ⟨rfl, rfl⟩
theorem grows_lit (w : World) : PredGrows Tryd.prog 82 #[] (fun x => !runeSign x) w := fun W x hx hb => (lit_any x hx W).mono fun e w' ⟨he, hw⟩ => ⟨he, by rw [hw]; exact Below.refl _ _⟩
theorem contains_any (s : ByteArray) (w : World) :
    Calls Tryd.prog 81 #[.string s, .func (.func 82) #[] #[]] w fun e w' => e = .returned (.bool (!s.data.toList.all okSign)) ∧ Below w.heap.size w w' := by
  have := Tryd.strings_ContainsFunc_grows 82 #[] (enters_of Tryd.func82 (by kernel_rfl) rfl) (fun x => !runeSign x) s w (grows_lit w)
  rw [runes_all] at this
  exact this
set_option maxHeartbeats 1000000 in
set_option maxRecDepth 100000 in
theorem part_any (s : ByteArray) (w : World) (hs : s.size ≤ maxLen) :
    Calls Tryd.prog 60 #[.string s] w fun e w' => e = .returned (.bool (okPart s.data.toList)) ∧ Below w.heap.size w w' := by
  unfold maxLen at hs
  cases c1 : s.toList.isEmpty with
  | true =>
    have H := Lib.hid (okPart_no (.inl c1))
    have d1 : s.toList = [] := List.isEmpty_iff.1 c1
    go_enter Tryd.func60, Tryd.ntmps60
    go_wp2
    go_ret
    exact ⟨by rw [H.out]; rfl, Below.refl _ _⟩
  | false =>
  have d1 : ¬ s.toList = [] := fun h => by rw [h] at c1; cases c1
  by_cases c4 : 64 < s.size
  · have H := Lib.hid (okPart_no (.inr (.inr (.inr c4))))
    have r1 : decide ((s.size : Int) ≤ 64) = false := decide_eq_false (by omega)
    go_enter Tryd.func60, Tryd.ntmps60
    go_wp2
    go_ret
    exact ⟨by rw [H.out]; rfl, Below.refl _ _⟩
  have r1 : decide ((s.size : Int) ≤ 64) = true := decide_eq_true (by omega)
  cases c2 : s.toList == [46] with
  | true =>
    have H := Lib.hid (okPart_no (.inr (.inl c2)))
    have d2 : s.toList = [46] := beq_iff_eq.1 c2
    have e2 : (s.toList != [46]) = false := by rw [bne, c2]; rfl
    go_enter Tryd.func60, Tryd.ntmps60
    go_wp2
    go_ret
    exact ⟨by rw [H.out]; rfl, Below.refl _ _⟩
  | false =>
  have d2 : ¬ s.toList = [46] := beq_eq_false_iff_ne.1 c2
  have e2 : (s.toList != [46]) = true := by rw [bne, c2]; rfl
  cases c3 : s.toList == [46, 46] with
  | true =>
    have H := Lib.hid (okPart_no (.inr (.inr (.inl c3))))
    have d3 : s.toList = [46, 46] := beq_iff_eq.1 c3
    have e3 : (s.toList != [46, 46]) = false := by rw [bne, c3]; rfl
    go_enter Tryd.func60, Tryd.ntmps60
    go_wp2
    go_ret
    exact ⟨by rw [H.out]; rfl, Below.refl _ _⟩
  | false =>
  have d3 : ¬ s.toList = [46, 46] := beq_eq_false_iff_ne.1 c3
  have e3 : (s.toList != [46, 46]) = true := by rw [bne, c3]; rfl
  have H := Lib.hid (okPart_of c1 c2 c3 (by omega))
  have hc := fun w => contains_any s w
  obtain ⟨b, hb⟩ : ∃ b, b = s.data.toList.all okSign := ⟨_, rfl⟩
  rw [← hb] at hc H
  have HC := Lib.hid hc
  clear hc hb
  go_enter Tryd.func60, Tryd.ntmps60
  go_wp2_with (go_at_call 81; refine (HC.out _).mono ?_; rintro e w' ⟨rfl, hb⟩)
  go_ret
  exact ⟨by rw [H.out]; simp, hb⟩
end Go.Proofs.YtjpaajpjajoijaaDoor
