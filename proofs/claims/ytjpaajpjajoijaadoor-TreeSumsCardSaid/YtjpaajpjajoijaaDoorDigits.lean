/- bloomeryref01.digits. -/
import Derived.Test.YtjpaajpjajoijaaDoorConv
import Derived.Test.YtjpaajpjajoijaaDoorTPaths
import Derived.Lib.ItoaNum
namespace Go.Proofs.YtjpaajpjajoijaaDoor
set_option linter.unusedVariables false
open Go.RowKit
/-- A number's digits as a text. -/
def digT (n : Nat) : ByteArray := ⟨(Lib.decDigits n).toArray⟩
theorem digT_small {n : Nat} (h : n < 10) : digT n = ⟨#[UInt8.ofNat (48 + n)]⟩ := by unfold digT; rw [Lib.decDigits_one h]
set_option maxHeartbeats 1000000 in
set_option maxRecDepth 100000 in
theorem digits_small (n : Nat) (w : World) (h : n < 10) :
    Calls Tryd.prog 79 #[.int .i64 n] w fun e w' => e = .returned (.string (digT n)) ∧ Below w.heap.size w w' := by
  rw [digT_small h]
  have hu : ((UInt8.ofNat (48 + n)).toNat : Int) = 48 + (n : Int) := by rw [UInt8.toNat_ofNat']; omega
  obtain ⟨ch, hch⟩ : ∃ ch, ch = UInt8.ofNat (48 + n) := ⟨_, rfl⟩
  rw [← hch] at hu ⊢
  have HU := Lib.hid hu
  clear hu hch
  have hw : IntKind.u8.wrap (48 + (n : Int)) = 48 + (n : Int) := by simp [IntKind.wrap, IntKind.bits, IntKind.signed]; omega
  have hcv : (convert 81 9 (.slice (some ⟨w.heap.size, 0, none⟩) 1 1)).run Tryd.prog (w.alloc (.cells #[.int .u8 (48 + (n : Int))] 5)) = .ok (.string ⟨#[ch]⟩) (w.alloc (.cells #[.int .u8 (48 + (n : Int))] 5)) :=
    run_convert_bytes_back (w.alloc (.cells #[.int .u8 (48 + (n : Int))] 5)) 81 9 5 ⟨w.heap.size, 0, none⟩ 1 [ch] Tryd.underlying81 Tryd.underlying5 Tryd.underlying9 (fun j hj => by
      have hj0 : j = 0 := by simpa using hj
      subst hj0
      rw [Addr.add_lit]
      show (w.alloc _).cell? _ = _
      rw [((Blk.new w 5 #[.int .u8 (48 + (n : Int))]).cell 0)]
      simp [HU.out])
  have HCV := Lib.hid hcv
  clear hcv
  go_enter Tryd.func79, Tryd.ntmps79
  go_wp2_with (simp only [HCV.out])
  go_ret
  exact ⟨rfl, (Below.refl _ _).alloc (Nat.le_refl _) _⟩
theorem digT_big {n : Nat} (h : ¬ n < 10) : digT n = digT (n / 10) ++ digT (n % 10) := by
  have h1 : n % 10 < 10 := Nat.mod_lt _ (by decide)
  apply ByteArray.ext
  rw [ByteArray.data_append]
  unfold digT
  show (Lib.decDigits n).toArray = (Lib.decDigits (n / 10)).toArray ++ (Lib.decDigits (n % 10)).toArray
  rw [Lib.decDigits_one h1, List.append_toArray]
  conv => lhs; rw [Lib.decDigits, dif_neg h]
theorem digT_size (n : Nat) : (digT n).size ≤ n + 1 := by
  have key : ∀ k n : Nat, n ≤ k → (Lib.decDigits n).length ≤ n + 1 := by
    intro k
    induction k with
    | zero => intro n h; rw [Lib.decDigits, dif_pos (by omega)]; simp
    | succ k ih =>
      intro n h
      by_cases h10 : n < 10
      · rw [Lib.decDigits, dif_pos h10]; simp
      · rw [Lib.decDigits, dif_neg h10, List.length_append, List.length_singleton]
        have := ih (n / 10) (by omega)
        omega
  have := key n n (Nat.le_refl _)
  show (Lib.decDigits n).toArray.size ≤ _
  simpa using this
set_option maxHeartbeats 1000000 in
set_option maxRecDepth 100000 in
theorem digits_any : ∀ (k n : Nat) (w : World), n ≤ k → n ≤ 1000000 →
    Calls Tryd.prog 79 #[.int .i64 n] w fun e w' => e = .returned (.string (digT n)) ∧ Below w.heap.size w w' := by
  intro k
  induction k with
  | zero => exact fun n w h _ => digits_small n w (by omega)
  | succ k ih =>
    intro n w h hm
    by_cases h10 : n < 10
    · exact digits_small n w h10
    · have h1 := fun w => ih (n / 10) w (by omega) (by omega)
      have h2 := fun w => digits_small (n % 10) w (Nat.mod_lt _ (by decide))
      have q1 : (n : Int) / 10 = ((n / 10 : Nat) : Int) := by omega
      have q2 : (n : Int) % 10 = ((n % 10 : Nat) : Int) := by omega
      rw [digT_big h10]
      have s1 := digT_size (n / 10)
      have s2 := digT_size (n % 10)
      obtain ⟨D1, hD1⟩ : ∃ D1, D1 = digT (n / 10) := ⟨_, rfl⟩
      obtain ⟨D2, hD2⟩ : ∃ D2, D2 = digT (n % 10) := ⟨_, rfl⟩
      rw [← hD1] at s1
      rw [← hD2] at s2
      have s3 : ¬ 9223372036854775807 < D1.size + D2.size := by omega
      rw [← hD1, ← hD2]
      rw [← hD1, ← q1] at h1
      rw [← hD2, ← q2] at h2
      have H1 := Lib.hid h1
      have H2 := Lib.hid h2
      clear h1 h2 q1 q2 hD1 hD2 ih
      go_enter Tryd.func79, Tryd.ntmps79
      go_wp2_with (first
        | (go_at_call 79; (with_reducible refine (H1.out _).mono ?_); rintro e w1 ⟨rfl, b1⟩)
        | (go_at_call 79; (with_reducible refine (H2.out _).mono ?_); rintro e w2 ⟨rfl, b2⟩))
      go_ret
      exact ⟨rfl, b1.trans (b2.mono b1.size)⟩
end Go.Proofs.YtjpaajpjajoijaaDoor
