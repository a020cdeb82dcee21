/- bloomerylaw03.alive: the document's examples. -/
import Derived.Test.YtjpaajpjajoijaaDoorRef2
namespace Go.Proofs.YtjpaajpjajoijaaDoor
set_option linter.unusedVariables false
open Go.RowKit
theorem al1 (w : World) : Calls Tryd.prog 28 #[.string ⟨#[97, 47, 98]⟩, .string ⟨#[99, 46, 103, 111]⟩] w fun e w' => e = .returned (.tuple #[.string ⟨#[97, 47, 98, 47, 99, 46, 103, 111]⟩, .int .i64 0]) ∧ Below w.heap.size w w' := by
  have h := pjoin_any ⟨#[97, 47, 98]⟩ ⟨#[99, 46, 103, 111]⟩ w (by decide) (by decide)
  rw [show joinL (⟨#[97, 47, 98]⟩ : ByteArray).data.toList (⟨#[99, 46, 103, 111]⟩ : ByteArray).data.toList = ([97, 47, 98, 47, 99, 46, 103, 111], 0) from by decide +kernel] at h
  exact h
theorem al2 (w : World) : Calls Tryd.prog 36 #[.string ⟨#[120, 46, 116, 97, 114, 46, 103, 122]⟩] w fun e w' => e = .returned (.string ⟨#[46, 103, 122]⟩) ∧ Below w.heap.size w w' := by
  have h := pext_any ⟨#[120, 46, 116, 97, 114, 46, 103, 122]⟩ w (by decide)
  rw [show extL (⟨#[120, 46, 116, 97, 114, 46, 103, 122]⟩ : ByteArray).data.toList = [46, 103, 122] from by decide +kernel] at h
  exact h
theorem al3 (w : World) : Calls Tryd.prog 36 #[.string ⟨#[46, 114, 99]⟩] w fun e w' => e = .returned (.string ⟨#[]⟩) ∧ Below w.heap.size w w' := by
  have h := pext_any ⟨#[46, 114, 99]⟩ w (by decide)
  rw [show extL (⟨#[46, 114, 99]⟩ : ByteArray).data.toList = [] from by decide +kernel] at h
  exact h
theorem al4 (w : World) : Calls Tryd.prog 30 #[.string ⟨#[97, 98, 47, 99]⟩, .string ⟨#[97]⟩] w fun e w' => e = .returned (.bool false) ∧ Below w.heap.size w w' := by
  have h := punder_any ⟨#[97, 98, 47, 99]⟩ ⟨#[97]⟩ w (by decide) (by decide)
  rw [show underL (⟨#[97, 98, 47, 99]⟩ : ByteArray).data.toList (⟨#[97]⟩ : ByteArray).data.toList = false from by decide +kernel] at h
  exact h
theorem al5 (w : World) : Calls Tryd.prog 27 #[.string ⟨#[97]⟩] w fun e w' => e = .returned (.bool true) ∧ Below w.heap.size w w' := by
  have h := pmay_any ⟨#[97]⟩ w (by decide)
  rw [show okPath (⟨#[97]⟩ : ByteArray).data.toList = true from by decide +kernel] at h
  exact h
theorem al6 (w : World) : Calls Tryd.prog 27 #[.string ⟨#[97, 47, 47, 98]⟩] w fun e w' => e = .returned (.bool false) ∧ Below w.heap.size w w' := by
  have h := pmay_any ⟨#[97, 47, 47, 98]⟩ w (by decide)
  rw [show okPath (⟨#[97, 47, 47, 98]⟩ : ByteArray).data.toList = false from by decide +kernel] at h
  exact h
set_option maxHeartbeats 1000000 in
set_option maxRecDepth 100000 in
theorem alive_any (w : World) : Calls Tryd.prog 26 #[] w fun e w' => e = .returned (.bool true) ∧ Below w.heap.size w w' := by
  go_enter Tryd.func26, Tryd.ntmps26
  go_wp2_with (first | (go_at_call 28; (with_reducible refine (al1 _).mono ?_); rintro e w1 ⟨rfl, b1⟩) | (go_at_call 36; (with_reducible refine (al2 _).mono ?_); rintro e w2 ⟨rfl, b2⟩) | (go_at_call 36; (with_reducible refine (al3 _).mono ?_); rintro e w3 ⟨rfl, b3⟩) | (go_at_call 30; (with_reducible refine (al4 _).mono ?_); rintro e w4 ⟨rfl, b4⟩) | (go_at_call 27; (with_reducible refine (al5 _).mono ?_); rintro e w5 ⟨rfl, b5⟩) | (go_at_call 27; (with_reducible refine (al6 _).mono ?_); rintro e w6 ⟨rfl, b6⟩))
  go_ret
  have c2 := b1.trans (b2.mono b1.size)
  have c3 := c2.trans (b3.mono c2.size)
  have c4 := c3.trans (b4.mono c3.size)
  have c5 := c4.trans (b5.mono c4.size)
  exact ⟨rfl, c5.trans (b6.mono c5.size)⟩
set_option maxHeartbeats 1000000 in
set_option maxRecDepth 100000 in
theorem pathMay_any (s : ByteArray) (w : World) (hs : s.size ≤ maxLen) : Calls Tryd.prog 6 #[.string s] w fun e w' => e = .returned (.bool true) ∧ Below w.heap.size w w' := by
  unfold maxLen at hs
  by_cases h2 : 2000 < s.size
  · go_enter Tryd.func6, Tryd.ntmps6
    go_wp2_with (go_at_call 26; (with_reducible refine (alive_any _).mono ?_); rintro e w1 ⟨rfl, b1⟩)
    go_ret
    exact ⟨by simp, b1⟩
  · have hp := fun w => pmay_any s w (by omega)
    have hr := fun w => rmay_any s w (by omega)
    obtain ⟨b, hb⟩ : ∃ b, b = okPath s.data.toList := ⟨_, rfl⟩
    rw [← hb] at hp hr
    have HP := Lib.hid hp
    have HR := Lib.hid hr
    clear hp hr hb
    go_enter Tryd.func6, Tryd.ntmps6
    go_wp2_with (first | (go_at_call 26; (with_reducible refine (alive_any _).mono ?_); rintro e w1 ⟨rfl, b1⟩) | (go_at_call 27; (with_reducible refine (HP.out _).mono ?_); rintro e w2 ⟨rfl, b2⟩) | (go_at_call 18; (with_reducible refine (HR.out _).mono ?_); rintro e w3 ⟨rfl, b3⟩))
    go_ret
    exact ⟨by simp, (b1.trans (b2.mono b1.size)).trans (b3.mono (Nat.le_trans b1.size b2.size))⟩
end Go.Proofs.YtjpaajpjajoijaaDoor
