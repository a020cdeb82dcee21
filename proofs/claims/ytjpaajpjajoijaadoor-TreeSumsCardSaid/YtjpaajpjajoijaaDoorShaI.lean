/- bloomeryref02.whole. -/
import Derived.Test.YtjpaajpjajoijaaDoorShaH
namespace Go.Proofs.YtjpaajpjajoijaaDoor
open Go.RowKit Sha
set_option maxHeartbeats 1000000 in
set_option maxRecDepth 100000 in
theorem whole_any (s : ByteArray) (g : Nat) (w : World) (hg : g < w.heap.size) (hl : s.size ≤ 140737488355000) :
    Calls Tryd.prog 77 #[.string s] w fun e w' => ∃ (A : Option Addr) (c : Nat), e = .returned (.slice A (pad s.data.toList).length c) ∧ Win w' w.heap.size g A (pad s.data.toList) c ∧ Below w.heap.size w w' := by
  obtain ⟨i0, hi, hz0, hz1, hz2⟩ := info_parts info5
  have hsl : s.data.toList.length = s.size := rfl
  have hsm : s.size ≤ maxLen := by unfold maxLen; omega
  have hsz : s.size ≤ 9223372036854775807 := by omega
  have HSL := Lib.hid hsl
  clear hsl
  have hn8 : IntKind.u64.wrap ((s.size : Int) * 8) = ((8 * s.size : Nat) : Int) := by rw [IntKind.wrap_u64]; omega
  go_enter Tryd.func77, Tryd.ntmps77
  go_wp2_with (first
    | (with_reducible refine wpList_bytes_win (B := w.heap.size) (g := g) rfl (.tmp 6) 9 81 rfl 5 s Tryd.underlying9 Tryd.underlying81 agg5 rfl (by omega) hg hsm ?_; intro cw w1 hW1 hK1; have hK2 := hK1.size)
    | (at_builtin; refine wpList_append_win rfl (.tmp 8) (.tmp 9) 81 81 rfl 5 i0 (.int .u8 0) Tryd.underlying81 hi hz0 hz1 hz2 rfl s.size rfl HSL.out.symm (hW1.alloc _) (by simp; omega) (by simp; omega) _ rfl (Src.bytes Tryd.underlying81 w1.heap.size 0 1 [128] (BytesAt.one w1 128 5)) (by rw [HSL.out]; simp; omega) ?_; intro A2 c2 w2 hW2 hK3; rw [List.length_append, HSL.out]))
  have hX : Below w.heap.size w w2 := ((hK1.below (Nat.le_refl _)).alloc hK2 _).trans (hK3.below (by simp; omega))
  clear hK3 hK2 hW1 hK1
  go_loopw [3] (fun v wr => ∃ (k c : Nat) (A : Option Addr), k ≤ (119 - s.size % 64) % 64 ∧ v = .slice A (s.size + 1 + k) c ∧ Win wr w.heap.size g A (s.data.toList ++ 128 :: List.replicate k 0) c ∧ Below w.heap.size w wr) (fun v _ => (120 - lenV v % 64) % 64)
  case atStart => exact ⟨0, c2, A2, Nat.zero_le _, rfl, hW2, hX⟩
  case round =>
    clear hW2 hX
    obtain ⟨k, c, A, hk, rfl, hW2, hX⟩ := hrel
    have hl2 : (s.data.toList ++ 128 :: List.replicate k 0).length = s.size + 1 + k := by rw [List.length_append, HSL.out]; simp; omega
    have HL2 := Lib.hid hl2
    have hX2 := hX.size
    clear hl2
    by_cases hlt : (s.size + 1 + k) % 64 = 56
    · have hlt' : (((s.size : Int) + 1 + (k : Int)) % 64 != 56) = false := by simp; omega
      have HLT := Lib.hid hlt
      clear hlt
      go_wp2
      go_loopw [3, 5] (fun v i wr => ∃ (j c : Nat) (A : Option Addr), j ≤ 8 ∧ v = .slice A (s.size + 1 + k + j) c ∧ i = .int .i64 (7 - (j : Int)) ∧ Win wr w.heap.size g A (s.data.toList ++ 128 :: (List.replicate k 0 ++ (len8 s.size).take j)) c ∧ Below w.heap.size w wr) (fun _ i _ => (intOf i + 8).toNat)
      case atStart => exact ⟨0, c, A, by omega, rfl, by rfl, by simpa using hW2, hX⟩
      case round =>
        clear hW2 hX
        obtain ⟨j, c, A, hj, rfl, rfl, hW2, hX⟩ := hrel
        have hX2 := hX.size
        by_cases hj8 : j < 8
        · have q1 : (0 : Int) ≤ 7 - (j : Int) := by omega
          have q2 : (8 * (7 - (j : Int))).toNat = 56 - 8 * j := by omega
          have q3 : (0 : Int) ≤ 8 * (7 - (j : Int)) := by omega
          have hb := len8_byte s.size j
          have ht := len8_take s.size j hj8
          obtain ⟨x, hx⟩ : ∃ x, x = UInt8.ofNat (8 * s.size / 2 ^ (56 - 8 * j) % 256) := ⟨_, rfl⟩
          rw [← hx] at hb ht
          have HT := Lib.hid ht
          have HL3 : Hid ((s.data.toList ++ 128 :: (List.replicate k 0 ++ (len8 s.size).take j)).length = s.size + 1 + k + j) := Lib.hid (by rw [List.length_append, HSL.out]; simp [len8]; omega)
          clear hx ht
          go_wp2_with (at_builtin; refine wpList_append_win rfl (.tmp 26) (.tmp 32) 81 81 rfl 5 i0 (.int .u8 0) Tryd.underlying81 hi hz0 hz1 hz2 rfl (s.size + 1 + k + j) rfl HL3.out.symm (hW2.alloc _) (by simp; omega) (by simp; omega) _ rfl (Src.bytes Tryd.underlying81 wr.heap.size 0 1 [x] (BytesAt.one wr x 5)) (by rw [HL3.out]; simp; omega) ?_; intro A3 c3 w3 hW3 hK3; rw [List.length_append, HL3.out])
          go_roundw
          case rel =>
            refine ⟨j + 1, c3, A3, by omega, ret_slice (by omega), by go_num, ?_, (hX.alloc hX2 _).trans (hK3.below (by simp; omega))⟩
            rw [HT.out, ← List.append_assoc, ← List.cons_append, ← List.append_assoc]
            exact hW3
          case measure => simp [intOf]; omega
        · have HP : Hid (pad s.data.toList = s.data.toList ++ 128 :: (List.replicate k 0 ++ (len8 s.size).take j)) := Lib.hid (by
            have h1 := HLT.out
            have e1 : k = (119 - s.size % 64) % 64 := by omega
            rw [pad, HSL.out, tail, fill, e1, List.take_of_length_le (by simp [len8]; omega)])
          have HL3 : Hid ((s.data.toList ++ 128 :: (List.replicate k 0 ++ (len8 s.size).take j)).length = s.size + 1 + k + j) := Lib.hid (by rw [List.length_append, HSL.out]; simp [len8]; omega)
          go_wp2
          go_ret
          exact ⟨A, c, by rw [HP.out, HL3.out]; rfl, by rw [HP.out]; exact hW2, hX⟩
    · have hlt' : (((s.size : Int) + 1 + (k : Int)) % 64 != 56) = true := by simp; omega
      have HLT := Lib.hid hlt
      clear hlt
      go_wp2_with (at_builtin; refine wpList_append_win rfl (.tmp 15) (.tmp 16) 81 81 rfl 5 i0 (.int .u8 0) Tryd.underlying81 hi hz0 hz1 hz2 rfl (s.size + 1 + k) rfl HL2.out.symm (hW2.alloc _) (by simp; omega) (by simp; omega) _ rfl (Src.bytes Tryd.underlying81 wr.heap.size 0 1 [0] (BytesAt.one wr 0 5)) (by rw [HL2.out]; simp; omega) ?_; intro A3 c3 w3 hW3 hK3; rw [List.length_append, HL2.out])
      go_roundw
      case rel =>
        have hlt := HLT.out
        refine ⟨k + 1, c3, A3, by omega, ret_slice (by omega), ?_, (hX.alloc hX2 _).trans (hK3.below (by simp; omega))⟩
        rw [List.replicate_succ', ← List.cons_append, ← List.append_assoc]
        exact hW3
      case measure =>
        have hlt := HLT.out
        simp [lenV]
        omega
end Go.Proofs.YtjpaajpjajoijaaDoor
