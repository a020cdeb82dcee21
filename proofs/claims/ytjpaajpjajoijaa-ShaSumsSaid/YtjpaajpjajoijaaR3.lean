/- The law ShaSums, walked. -/
import Derived.Test.YtjpaajpjajoijaaQ
namespace Go.Proofs.Ytjpaajpjajoijaa
open Go.RowKit Sha
set_option maxHeartbeats 1000000 in
set_option maxRecDepth 100000 in
theorem shaSums_any (l : List ByteArray) (A : Option Addr) (c : Nat) (w : World) (hS : Strs w w.heap.size A l) (hn : l.length ≤ 140737488355328) (hs : ∀ s ∈ l, s.size ≤ maxLen) :
    Calls Try.prog 3 #[.slice A l.length c] w fun e w' => e = .returned (.bool true) ∧ Below w.heap.size w w' := by
  have hj := joined_any l A c w hS hn hs
  go_enter Try.func3, Try.ntmps3
  go_wp2_with (go_at_call 8; refine hj.mono ?_)
  rintro e w1 ⟨rfl, o, b, rfl, hb⟩
  cases b with
  | false =>
    go_wp2_with (go_at_call 9; refine (fixed_any _).mono ?_; rintro e w2 ⟨rfl, b2⟩)
    go_ret
    exact ⟨rfl, b2⟩
  | true =>
    obtain ⟨ho, hoz⟩ := hb rfl
    have h1 := sum_parts l A c w1 hS (by omega) (by rw [← ho]; show o.size ≤ _; omega)
    have h2 := fun w => rsum_any o w (by omega)
    rw [ho] at h2
    rw [D8_Dg] at h1
    simp only [D8_Dg] at h2
    obtain ⟨d, hd⟩ : ∃ d, d = digB (joinB l) := ⟨_, rfl⟩
    have hl : d.length = 32 := by rw [hd]; exact digB_length _
    rw [← hd] at h1 h2
    have HE := Lib.hid (eq27 d hl)
    clear hd hl ho hb hj
    go_wp2_with (first | (go_at_call 10; refine h1.mono ?_; rintro e w2 ⟨rfl, b2⟩) | (go_at_call 11; refine (h2 _).mono ?_; rintro e w3 ⟨rfl, b3⟩; have he := HE.out w3) | (go_at_call 9; refine (fixed_any _).mono ?_; rintro e w4 ⟨rfl, b4⟩))
    go_ret
    exact ⟨rfl, (b2.trans (b3.mono b2.size)).trans (b4.mono (Nat.le_trans b2.size b3.size))⟩
end Go.Proofs.Ytjpaajpjajoijaa
