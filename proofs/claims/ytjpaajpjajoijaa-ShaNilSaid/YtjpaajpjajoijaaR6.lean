/- The law ShaNil, walked. -/
import Derived.Test.YtjpaajpjajoijaaQ
namespace Go.Proofs.Ytjpaajpjajoijaa
open Go.RowKit Sha
set_option maxHeartbeats 1000000 in
set_option maxRecDepth 100000 in
theorem shaNil_any (s : ByteArray) (w : World) (hs : s.size ≤ maxLen) :
    Calls Try.prog 6 #[.string s] w fun e w' => e = .returned (.bool true) ∧ Below w.heap.size w w' := by
  unfold maxLen at hs
  by_cases h300 : 300 < s.size
  · go_enter Try.func6, Try.ntmps6
    go_wp2_with (go_at_call 9; refine (fixed_any _).mono ?_; rintro e w2 ⟨rfl, b2⟩)
    go_ret
    exact ⟨rfl, b2⟩
  · have h1 := fun w => sum_nil w
    have h2 := fun w => sum_parts [] none 0 w (fun h => absurd h (by simp)) (by simp) (by decide)
    have h3 := fun w => rsum_any ⟨#[]⟩ w (by decide)
    rw [show joinB [] = [] from rfl] at h2
    simp only [show ([] : List ByteArray).length = 0 from rfl] at h2
    simp only [D8_Dg] at h1 h2 h3
    obtain ⟨d, hd⟩ : ∃ d, d = digB [] := ⟨_, rfl⟩
    have hl : d.length = 32 := by rw [hd]; exact digB_length _
    rw [← hd] at h1 h2 h3
    have HE := Lib.hid (eq27 d hl)
    clear hd hl
    go_enter Try.func6, Try.ntmps6
    go_wp2_with (first
      | (go_at_call 14; refine (add_nil _ _).mono ?_; rintro e w1 ⟨rfl, rfl⟩)
      | (go_at_call 13; refine (h1 _).mono ?_; rintro e w2 ⟨rfl, hB⟩)
      | (go_at_call 10; refine (h2 _).mono ?_; rintro e w3 ⟨rfl, b3⟩; replace hB := hB.trans (b3.mono hB.size); have he := HE.out w3; clear b3)
      | (go_at_call 11; refine (h3 _).mono ?_; rintro e w3 ⟨rfl, b3⟩; replace hB := hB.trans (b3.mono hB.size); have he := HE.out w3; clear b3)
      | (go_at_call 9; refine (fixed_any _).mono ?_; rintro e w3 ⟨rfl, b3⟩; replace hB := hB.trans (b3.mono hB.size); clear b3))
    go_ret
    exact ⟨rfl, hB⟩
end Go.Proofs.Ytjpaajpjajoijaa
