/- bloomeryref01.Row. -/
import Derived.Test.YtjpaajpjajoijaaDoorDigits
namespace Go.Proofs.YtjpaajpjajoijaaDoor
set_option linter.unusedVariables false
open Go.RowKit
def rowStep (b s : ByteArray) : ByteArray := b ++ (digT s.size ++ ⟨#[58]⟩ ++ s)
/-- The row of texts. -/
def rowT (l : List ByteArray) : ByteArray := l.foldl rowStep ⟨#[]⟩
theorem rowT_succ (l : List ByteArray) (k : Nat) (h : k < l.length) : rowT (l.take (k + 1)) = rowStep (rowT (l.take k)) (l[k]'h) := by
  unfold rowT
  rw [List.take_succ_eq_append_getElem h, List.foldl_append]
  rfl
theorem rowStep_size (b s : ByteArray) (hs : s.size ≤ 300) : (rowStep b s).size ≤ b.size + 602 := by
  unfold rowStep
  rw [ByteArray.size_append, ByteArray.size_append, ByteArray.size_append]
  have := digT_size s.size
  have h1 : (⟨#[58]⟩ : ByteArray).size = 1 := rfl
  omega
theorem rowT_size (l : List ByteArray) (hs : ∀ s ∈ l, s.size ≤ 300) : ∀ k, k ≤ l.length → (rowT (l.take k)).size ≤ k * 602 := by
  intro k
  induction k with
  | zero => intro _; simp [rowT]; rfl
  | succ k ih =>
    intro h
    rw [rowT_succ l k h]
    have h1 := rowStep_size (rowT (l.take k)) l[k] (hs _ (List.getElem_mem h))
    have h2 := ih (by omega)
    omega
set_option maxHeartbeats 1000000 in
set_option maxRecDepth 100000 in
theorem rrow_any (l : List ByteArray) (A : Option Addr) (c : Nat) (w : World) (hT : Texts w w.heap.size A l) (hn : l.length ≤ 1000) (hs : ∀ s ∈ l, s.size ≤ 300) :
    Calls Tryd.prog 57 #[.slice A l.length c] w fun e w' => e = .returned (.string (rowT l)) ∧ Below w.heap.size w w' := by
  have hrs := rowT_size l hs
  have hst := fun k h => rowT_succ l k h
  obtain ⟨R, hR⟩ : ∃ R, R = rowT l := ⟨_, rfl⟩
  rw [← hR]
  have HT := Lib.hid hT
  have HS := Lib.hid hs
  have HRS := Lib.hid hrs
  have HST := Lib.hid hst
  have HR := Lib.hid hR
  clear hT hs hrs hst hR
  go_enter Tryd.func57, Tryd.ntmps57
  go_wp2
  go_loopw [3, 5, 8] (fun s3 _ s8 wr => ∃ (k : Nat) (b : ByteArray), k ≤ l.length ∧ s8 = .int .i64 k ∧ s3 = .string b ∧ Hid (b = rowT (l.take k)) ∧ b.size ≤ 602000 ∧ Below w.heap.size w wr) (fun _ _ s8 _ => l.length - (intOf s8).toNat)
  case atStart => exact ⟨0, _, by omega, rfl, rfl, Lib.hid rfl, by decide, Below.refl _ _⟩
  case round =>
    obtain ⟨k, b, hk, rfl, rfl, hb, hbs, hB⟩ := hrel
    have hsz := hB.size
    by_cases hlt : k < l.length
    · obtain ⟨a, rfl, hab, hc⟩ := (HT.out.below hB (Nat.le_refl _)) (by omega)
      have c1 := hc k l[k] (List.getElem?_eq_getElem hlt)
      have hst := HST.out k hlt
      have hss := HS.out l[k] (List.getElem_mem hlt)
      have hr1 := HRS.out (k + 1) hlt
      obtain ⟨s, hs⟩ : ∃ s, s = l[k] := ⟨_, rfl⟩
      rw [← hs] at c1 hst hss
      rw [← hb.out] at hst
      rw [hst] at hr1
      have hd := fun w' => digits_any s.size s.size w' (Nat.le_refl _) (by omega)
      have hds := digT_size s.size
      have hun : rowStep b s = b ++ (digT s.size ++ ⟨#[58]⟩ ++ s) := rfl
      obtain ⟨D, hD⟩ : ∃ D, D = digT s.size := ⟨_, rfl⟩
      rw [← hD] at hd hds hun
      have g1 : (⟨#[58]⟩ : ByteArray).size = 1 := rfl
      have g2 : (D ++ ⟨#[58]⟩ : ByteArray).size = D.size + 1 := by rw [ByteArray.size_append]; rfl
      have g3 : (D ++ ⟨#[58]⟩ ++ s : ByteArray).size = D.size + 1 + s.size := by rw [ByteArray.size_append, g2]
      have HD := Lib.hid hd
      have HSTP := Lib.hid hst
      have HUN := Lib.hid hun
      have HG := Lib.hid hr1
      have i1 : (0 : Int) ≤ (k : Int) := by omega
      have i2 : (k : Int) < (l.length : Int) := by omega
      have j1 : ¬ 9223372036854775807 < D.size + 1 := by omega
      have j2 : ¬ 9223372036854775807 < D.size + 1 + s.size := by omega
      have j3 : ¬ 9223372036854775807 < b.size + (D.size + 1 + s.size) := by omega
      clear hc hst hs hd hD hun hr1
      go_wp2_with (go_at_call 79; (with_reducible refine (HD.out _).mono ?_); rintro e w1 ⟨rfl, b1⟩)
      go_roundw
      case rel => exact ⟨k + 1, _, by omega, by go_num, rfl, Lib.hid (by rw [HSTP.out, HUN.out]), (by rw [← HUN.out]; have := HG.out; omega), hB.trans (b1.mono hsz)⟩
      case measure => simp [intOf]; omega
    · have hfin : l.take k = l := List.take_of_length_le (by omega)
      have hbR : b = R := by rw [hb.out, hfin, HR.out]
      have HBR := Lib.hid hbR
      clear hfin hbR
      go_wp2
      go_ret
      exact ⟨by rw [← HBR.out]; rfl, hB⟩
end Go.Proofs.YtjpaajpjajoijaaDoor
