/- There and back: a digest's text tells the digest, and a text that tells a digest is its text. -/
import Derived.Test.YtjpaajpjajoijaaS
import Derived.Test.YtjpaajpjajoijaaV
namespace Go.Proofs.Ytjpaajpjajoijaa
open Go.RowKit Sha
theorem hexs_even : ∀ (l : List UInt8) (i : Nat), i < l.length → (hexs l).getD (2 * i) 0 = hx ((l.getD i 0).toNat / 16) ∧ (hexs l).getD (2 * i + 1) 0 = hx ((l.getD i 0).toNat % 16)
  | [], i, h => absurd h (by simp)
  | x :: l, 0, _ => ⟨rfl, rfl⟩
  | x :: l, i + 1, h => by
    have ih := hexs_even l i (by simpa using h)
    rw [show hexs (x :: l) = hx (x.toNat / 16) :: hx (x.toNat % 16) :: hexs l from rfl, show 2 * (i + 1) = 2 * i + 1 + 1 from by omega]
    simpa using ih
theorem dgv_hx (n : Nat) (h : n < 16) : dgv (hx n) = (n : Int) := by
  have : ∀ n : Fin 16, dgv (hx n.val) = (n.val : Int) := by decide +kernel
  exact this ⟨n, h⟩
theorem hx_dgv (x : UInt8) (h : 0 ≤ dgv x) : hx (dgv x).toNat = x := by
  have : ∀ n : Fin 256, 0 ≤ dgv (UInt8.ofNat n.val) → hx (dgv (UInt8.ofNat n.val)).toNat = UInt8.ofNat n.val := by decide +kernel
  have h2 := this ⟨x.toNat, x.toNat_lt⟩
  rw [UInt8.ofNat_toNat] at h2
  exact h2 h
theorem dgo_get (s : List UInt8) (i : Nat) (h : i < (dgo s 32).length) : (dgo s 32)[i] = byteOf s i := by
  have hi : i < 32 := by rw [dgo_length] at h; exact h
  simp [dgo, hi]
theorem of_hexs (d : List UInt8) (hd : d.length = 32) : ofOk (hexs d) = true ∧ ofD (hexs d) = d := by
  have hb : ∀ i, i < 32 → dgv ((hexs d).getD (2 * i) 0) = (((d.getD i 0).toNat / 16 : Nat) : Int) ∧ dgv ((hexs d).getD (2 * i + 1) 0) = (((d.getD i 0).toNat % 16 : Nat) : Int) := fun i hi => by
    obtain ⟨h1, h2⟩ := hexs_even d i (by omega)
    have hx1 := (d.getD i 0).toNat_lt
    rw [h1, h2]
    exact ⟨dgv_hx _ (by omega), dgv_hx _ (by omega)⟩
  have hg := of_good (hexs d) ⟨by rw [hexs_length, hd], fun j hj => by obtain ⟨h1, h2⟩ := hb j hj; rw [h1, h2]; exact ⟨Int.natCast_nonneg _, Int.natCast_nonneg _⟩⟩
  refine ⟨hg.1, hg.2.trans ?_⟩
  apply List.ext_getElem (by rw [dgo_length, hd])
  intro i h1 h2
  have hi : i < 32 := by rw [dgo_length] at h1; exact h1
  obtain ⟨e1, e2⟩ := hb i hi
  have hx1 := (d.getD i 0).toNat_lt
  have hdi : d.getD i 0 = d[i] := by simp [List.getD, h2]
  rw [dgo_get]
  unfold byteOf
  rw [e1, e2]
  apply UInt8.toNat_inj.1
  rw [UInt8.toNat_ofNat_of_lt' (show (16 * (((d.getD i 0).toNat / 16 : Nat) : Int) + (((d.getD i 0).toNat % 16 : Nat) : Int)).toNat < UInt8.size from by simp only [UInt8.size]; omega), hdi]
  omega
theorem hexs_of (s : List UInt8) (h : ofOk s = true) : hexs (ofD s) = s := by
  have hs : s.length = 64 ∧ okTo s 32 := of_decide_eq_true h
  rw [(of_good s hs).2]
  apply List.ext_getElem (by rw [hexs_length, dgo_length, hs.1])
  intro j h1 h2
  have hj : j < 64 := by omega
  obtain ⟨i, hi⟩ : ∃ i, i = j / 2 := ⟨_, rfl⟩
  have hi32 : i < 32 := by omega
  obtain ⟨e1, e2⟩ := hexs_even (dgo s 32) i (by rw [dgo_length]; exact hi32)
  obtain ⟨o1, o2⟩ := hs.2 i hi32
  have a := dgv_lt (s.getD (2 * i) 0)
  have b := dgv_lt (s.getD (2 * i + 1) 0)
  have hbt : ((dgo s 32).getD i 0).toNat = (16 * dgv (s.getD (2 * i) 0) + dgv (s.getD (2 * i + 1) 0)).toNat := by
    have : (dgo s 32).getD i 0 = byteOf s i := by
      unfold dgo
      rw [List.getD, List.getElem?_map, List.getElem?_range hi32]
      simp [hi32]
    rw [this, byteOf, UInt8.toNat_ofNat_of_lt' (show (16 * dgv (s.getD (2 * i) 0) + dgv (s.getD (2 * i + 1) 0)).toNat < UInt8.size from by simp only [UInt8.size]; omega)]
  rw [hbt, show (16 * dgv (s.getD (2 * i) 0) + dgv (s.getD (2 * i + 1) 0)).toNat / 16 = (dgv (s.getD (2 * i) 0)).toNat from by omega, hx_dgv _ o1] at e1
  rw [hbt, show (16 * dgv (s.getD (2 * i) 0) + dgv (s.getD (2 * i + 1) 0)).toNat % 16 = (dgv (s.getD (2 * i + 1) 0)).toNat from by omega, hx_dgv _ o2] at e2
  have g1 : ∀ n, n < 64 → ∀ l : List UInt8, ∀ hl : n < l.length, l.getD n 0 = l[n] := fun n _ l hl => by simp [List.getD, hl]
  rcases Nat.mod_two_eq_zero_or_one j with hm | hm
  · have hje : j = 2 * i := by omega
    subst hje
    rw [g1 _ hj _ h1, g1 _ hj _ h2] at e1
    exact e1
  · have hje : j = 2 * i + 1 := by omega
    subst hje
    rw [g1 _ hj _ h1, g1 _ hj _ h2] at e2
    exact e2
end Go.Proofs.Ytjpaajpjajoijaa
