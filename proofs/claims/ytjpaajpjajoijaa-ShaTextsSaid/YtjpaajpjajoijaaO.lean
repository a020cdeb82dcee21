/- bloomerylaw02.fixed. -/
import Derived.Test.YtjpaajpjajoijaaM
import Derived.Test.YtjpaajpjajoijaaN
namespace Go.Proofs.Ytjpaajpjajoijaa
open Go.RowKit Sha
/-- The digest of a text, as bytes. -/
def digB (m : List UInt8) : List UInt8 := (List.range 32).map fun i => UInt8.ofNat (dig (final m) i)
theorem digB_length (m : List UInt8) : (digB m).length = 32 := by simp [digB]
theorem D8_Dg (m : List UInt8) : D8 m = .agg (Dg (digB m)) := by
  unfold D8 dgs Dg digB
  rw [List.map_map]
  congr 2
  apply List.map_congr_left
  intro j hj
  have h32 : j < 32 := List.mem_range.1 hj
  simp only [Function.comp, Bv, h32, if_true]
  rw [UInt8.toNat_ofNat_of_lt' (show dig (final m) j < UInt8.size from Nat.mod_lt _ (by decide))]
theorem abc : hexs (digB [97, 98, 99]) = [98, 97, 55, 56, 49, 54, 98, 102, 56, 102, 48, 49, 99, 102, 101, 97, 52, 49, 52, 49, 52, 48, 100, 101, 53, 100, 97, 101, 50, 50, 50, 51, 98, 48, 48, 51, 54, 49, 97, 51, 57, 54, 49, 55, 55, 97, 57, 99, 98, 52, 49, 48, 102, 102, 54, 49, 102, 50, 48, 48, 49, 53, 97, 100] := by kernel_rfl
theorem one_text (w : World) (s : ByteArray) (t : TypeId) : Strs (w.alloc (.cells #[.string s] t)) (w.heap.size + 1) (some ⟨w.heap.size, 0, none⟩) [s] := fun _ => ⟨_, rfl, by simp, fun j u hj => by
  match j, hj with
  | 0, hj =>
    simp at hj
    subst hj
    exact (Blk.new w t #[.string _]).cell 0⟩
set_option maxRecDepth 100000 in
theorem fixed_any (w : World) : Calls Try.prog 9 #[] w fun e w' => e = .returned (.bool true) ∧ Below w.heap.size w w' := by
  have hsum : ∀ w : World, Calls Try.prog 10 #[.slice (some ⟨w.heap.size, 0, none⟩) 1 1] (w.alloc (.cells #[.string ⟨#[97, 98, 99]⟩] 9)) fun e w' => e = .returned (.agg (Dg (digB [97, 98, 99]))) ∧ Below (w.heap.size + 1) (w.alloc (.cells #[.string ⟨#[97, 98, 99]⟩] 9)) w' := fun w => by
    have h := sum_parts [⟨#[97, 98, 99]⟩] (some ⟨w.heap.size, 0, none⟩) 1 (w.alloc (.cells #[.string ⟨#[97, 98, 99]⟩] 9)) (by rw [World.size_alloc]; exact one_text w _ 9) (by decide) (by decide)
    rw [World.size_alloc] at h
    rw [← D8_Dg]
    exact h
  obtain ⟨D, hD⟩ : ∃ D, D = digB [97, 98, 99] := ⟨_, rfl⟩
  have hhex := abc
  rw [← hD] at hhex
  have hlen : D.length = 32 := by rw [hD]; exact digB_length _
  rw [← hD] at hsum
  have HX := Lib.hid hhex
  have HL := Lib.hid hlen
  clear hD hhex hlen
  go_enter Try.func9, Try.ntmps9
  go_wp2_with (first | (go_at_call 10; refine (hsum _).mono ?_; rintro e w1 ⟨rfl, b1⟩) | (go_at_call 17; refine (hex_any D HL.out _).mono ?_; rintro e w2 ⟨rfl, b2⟩; rw [HX.out]))
  go_ret
  exact ⟨rfl, (((Below.refl _ _).alloc (Nat.le_refl _) _).trans (b1.mono (by omega))).trans (b2.mono (by have := b1.size; simp at this; omega))⟩
end Go.Proofs.Ytjpaajpjajoijaa
