/- bloomeryref02.Hex. -/
import Derived.Test.YtjpaajpjajoijaaM
import Derived.Test.YtjpaajpjajoijaaO
import Derived.IntWalk
namespace Go.Proofs.Ytjpaajpjajoijaa
set_option linter.unusedVariables false
open Go.RowKit Sha
abbrev digS : ByteArray := ⟨#[48, 49, 50, 51, 52, 53, 54, 55, 56, 57, 97, 98, 99, 100, 101, 102]⟩
theorem hx_cut (n : Nat) (h : n < 16) : ((⟨#[48, 49, 50, 51, 52, 53, 54, 55, 56, 57, 97, 98, 99, 100, 101, 102]⟩ : ByteArray).extract n (n + 1)) = ⟨#[hx n]⟩ := by
  have : ∀ n : Fin 16, ((⟨#[48, 49, 50, 51, 52, 53, 54, 55, 56, 57, 97, 98, 99, 100, 101, 102]⟩ : ByteArray).extract n.val (n.val + 1)).data.toList = [hx n.val] := by decide +kernel
  have h2 := this ⟨n, h⟩
  apply ByteArray.ext
  apply Array.toList_inj.1
  exact h2
set_option maxHeartbeats 400000 in
set_option maxRecDepth 100000 in
theorem rhex_any (d : List UInt8) (hd : d.length = 32) (w : World) :
    Calls Try.prog 18 #[.agg (Dg d)] w fun e w' => e = .returned (.string ⟨(hexs d).toArray⟩) ∧ Below w.heap.size w w' := by
  have HDL := Lib.hid hd
  clear hd
  have hD := Blk.new w 27 (Dg d)
  have hB0 : Below w.heap.size w (w.alloc (.cells (Dg d) 27)) := (Below.refl _ _).alloc (Nat.le_refl _) _
  go_enter Try.func18, Try.ntmps18
  go_wp2
  go_loopw [4, 5] (fun v i wr => ∃ (k : Nat) (o : ByteArray), k ≤ 32 ∧ i = .int .i64 k ∧ v = .string o ∧ o.data.toList = hexs (d.take k) ∧ o.size = 2 * k ∧ Blk wr w.heap.size 27 (Dg d) ∧ Below w.heap.size w wr) (fun _ i _ => 32 - (intOf i).toNat)
  case atStart => exact ⟨0, _, by omega, rfl, rfl, rfl, rfl, hD, hB0⟩
  case round =>
    clear hD hB0
    obtain ⟨k, o, hk, rfl, rfl, ho, hos, hD, hB⟩ := hrel
    have HO := Lib.hid ho
    have HOS := Lib.hid hos
    clear ho hos
    by_cases hlt : k < 32
    · have hkd : k < d.length := by have := HDL.out; omega
      have hc := (hD.cell k).trans (Dg_get d k hkd)
      have hht := hexs_take d k hkd
      obtain ⟨x, hx⟩ : ∃ x, x = d[k] := ⟨_, rfl⟩
      rw [← hx] at hc hht
      have HHT := Lib.hid hht
      clear hht hx
      have hx1 := x.toNat_lt
      have hoz : o.size ≤ 64 := by have := HOS.out; omega
      go_wp2_with fail
      obtain ⟨a, ha⟩ : ∃ a, a = x.toNat / 16 := ⟨_, rfl⟩
      obtain ⟨b, hb⟩ : ∃ b, b = x.toNat % 16 := ⟨_, rfl⟩
      have ha1 : a < 16 := by omega
      have hb1 : b < 16 := by omega
      have q1 : ((x.toNat : Int)).tdiv 16 = (a : Int) := by rw [Int.tdiv_eq_ediv_of_nonneg (by omega)]; omega
      have q2 : ((x.toNat : Int)).tmod 16 = (b : Int) := by rw [Int.tmod_eq_emod_of_nonneg (by omega)]; omega
      have q3 : (0 : Int) ≤ (a : Int) + 1 := by omega
      have q4 : (a : Int) + 1 ≤ 16 := by omega
      have q5 : ((a : Int) + 1).toNat = a + 1 := by omega
      have q6 : (0 : Int) ≤ (b : Int) + 1 := by omega
      have q7 : (b : Int) + 1 ≤ 16 := by omega
      have q8 : ((b : Int) + 1).toNat = b + 1 := by omega
      have q9 := hx_cut a ha1
      have q10 := hx_cut b hb1
      have q11 : IntKind.i64.wrap ((a : Int) + 1) = (a : Int) + 1 := IntWalk.i64_in _ (by omega)
      have q12 : IntKind.i64.wrap ((b : Int) + 1) = (b : Int) + 1 := IntWalk.i64_in _ (by omega)
      have HA := Lib.hid ha
      have HBB := Lib.hid hb
      clear ha hb
      go_quiet (fail)
      clear q11 q12 q1 q2 q9 q10
      go_wp2_with fail
      go_roundw
      case rel =>
        refine ⟨k + 1, _, by omega, by go_num, rfl, ?_, ?_, hD.drewN nq, below_drewN hB nq⟩
        · rw [HHT.out, ← HO.out, ← HA.out, ← HBB.out]
          simp
        · have e : ∀ a b : ByteArray, (a ++ b).size = a.size + b.size := fun a b => ByteArray.size_append
          rw [e, e, HOS.out]
          rfl
      case measure => simp [intOf]; omega
    · have hfin : d.take k = d := List.take_of_length_le (by have := HDL.out; omega)
      rw [hfin] at HO
      clear hfin
      have HR : Hid (o = ⟨(hexs d).toArray⟩) := Lib.hid (by
        apply ByteArray.ext
        apply Array.toList_inj.1
        exact HO.out)
      go_wp2
      go_ret
      exact ⟨by rw [← HR.out]; rfl, hB⟩
end Go.Proofs.Ytjpaajpjajoijaa
