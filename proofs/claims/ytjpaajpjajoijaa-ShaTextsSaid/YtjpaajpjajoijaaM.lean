/- sha.Hex, bloomeryref02.Hex: a digest's text. -/
import Derived.Test.YtjpaajpjajoijaaL
namespace Go.Proofs.Ytjpaajpjajoijaa
open Go.RowKit Sha
/-- A digest as a value. -/
def Dg (d : List UInt8) : Array Value := (d.map Bv).toArray
def digs : List UInt8 := [48, 49, 50, 51, 52, 53, 54, 55, 56, 57, 97, 98, 99, 100, 101, 102]
def hx (n : Nat) : UInt8 := digs.getD n 0
def hexs (d : List UInt8) : List UInt8 := d.flatMap fun x => [hx (x.toNat / 16), hx (x.toNat % 16)]
theorem hexs_take (d : List UInt8) (k : Nat) (h : k < d.length) : hexs (d.take (k + 1)) = hexs (d.take k) ++ [hx (d[k].toNat / 16), hx (d[k].toNat % 16)] := by
  unfold hexs
  rw [List.take_succ_eq_append_getElem h, List.flatMap_append]
  simp
theorem Dg_get (d : List UInt8) (k : Nat) (h : k < d.length) : (Dg d)[k]? = some (.int .u8 (d[k].toNat : Int)) := by
  simp [Dg, Bv, List.getElem?_eq_getElem h]
theorem Dg_size (d : List UInt8) : (Dg d).size = d.length := by simp [Dg]
theorem isAgg5 (w : World) : (isAgg 5).run Try.prog w = .ok false w := by kernel_rfl
theorem sizeOf5 (w : World) : (sizeOf 5).run Try.prog w = .ok 1 w := by kernel_rfl
theorem zero58 (w : World) : (zeroValue 58).run Try.prog w = .ok (.agg #[.pointer none, .slice none 0 0]) w := by kernel_rfl
theorem hexs_length (l : List UInt8) : (hexs l).length = 2 * l.length := by
  induction l with
  | nil => rfl
  | cons x l ih => rw [show hexs (x :: l) = hx (x.toNat / 16) :: hx (x.toNat % 16) :: hexs l from rfl]; simp [ih]; omega
theorem hx_at (n : Nat) (h : n < (⟨#[48, 49, 50, 51, 52, 53, 54, 55, 56, 57, 97, 98, 99, 100, 101, 102]⟩ : ByteArray).size) : (⟨#[48, 49, 50, 51, 52, 53, 54, 55, 56, 57, 97, 98, 99, 100, 101, 102]⟩ : ByteArray)[n] = hx n := by
  have h' : n < 16 := h
  have : ∀ n : Fin 16, (⟨#[48, 49, 50, 51, 52, 53, 54, 55, 56, 57, 97, 98, 99, 100, 101, 102]⟩ : ByteArray)[n.val]'n.isLt = hx n.val := by decide
  exact this ⟨n, h'⟩
set_option maxHeartbeats 1000000 in
set_option maxRecDepth 100000 in
theorem hex_any (d : List UInt8) (hd : d.length = 32) (w : World) :
    Calls Try.prog 17 #[.agg (Dg d)] w fun e w' => e = .returned (.string ⟨(hexs d).toArray⟩) ∧ Below w.heap.size w w' := by
  have hi27 : (Try.prog.info? 27).map (·.size) = some (Dg d).size := by rw [Dg_size, hd]; kernel_rfl
  have HI := Lib.hid hi27
  have HDL := Lib.hid hd
  clear hi27 hd
  have hD := Blk.new w 27 (Dg d)
  have hA : Lib.IsBuilder 58 5 w.heap.size (w.heap.size + 1) [] ((w.alloc (.cells (Dg d) 27)).alloc (.cells #[.pointer none, .slice none 0 0] 58)) := by
    have h := Blk.new (w.alloc (.cells (Dg d) 27)) 58 #[.pointer none, .slice none 0 0]
    rw [World.size_alloc] at h
    exact .inl ⟨by omega, _, h, World.ownsRow_nil _ _ _ _, by simp [Value.ownBlock]⟩
  have hB0 : Below w.heap.size w ((w.alloc (.cells (Dg d) 27)).alloc (.cells #[.pointer none, .slice none 0 0] 58)) := ((Below.refl _ _).alloc (Nat.le_refl _) _).alloc (by simp) _
  go_enter Try.func17, Try.ntmps17
  go_wp2_with (first | (with_reducible refine wpList_load_row rfl 27 (.tmp 1) rfl w.heap.size rfl 27 (Dg d) (0, 0) _ (hD.alloc _).heap Try.underlying27 rfl HI.out ?_))
  go_loopw [7] (fun v wr => ∃ k : Nat, k ≤ 32 ∧ v = .int .i64 k ∧ Lib.IsBuilder 58 5 w.heap.size (w.heap.size + 1) ((hexs (d.take k)).map Bv) wr ∧ Below w.heap.size w wr) (fun v _ => 32 - (intOf v).toNat)
  case atStart => exact ⟨0, by omega, rfl, hA, hB0⟩
  case round =>
    clear hA hB0 hD
    obtain ⟨k, hk, rfl, hA, hB⟩ := hrel
    have hsz := hB.size
    by_cases hlt : k < 32
    · have hkd : k < d.length := by have := HDL.out; omega
      have hix := Dg_get d k hkd
      have hht := hexs_take d k hkd
      have hln : (hexs (d.take k)).length ≤ 64 := by rw [hexs_length, List.length_take]; omega
      obtain ⟨x, hx⟩ : ∃ x, x = d[k] := ⟨_, rfl⟩
      rw [← hx] at hix hht
      have HIX := Lib.hid hix
      have HHT := Lib.hid hht
      clear hix hht hx
      have hx1 := x.toNat_lt
      go_wp2_with (first | (with_reducible refine wpList_indexR rfl 27 (.tmp 6) (.tmp 7) rfl (Dg d) .i64 k rfl rfl 32 5 Try.underlying27 hlt (isAgg5 _) (sizeOf5 _) _ HIX.out ?_))
      refine (writeByte_any w.heap.size (w.heap.size + 1) _ _ wr hA (by rw [List.length_map]; omega) hsz).mono ?_
      rintro e w1 ⟨rfl, h1, b1⟩
      have hs1 := b1.size
      go_wp2_with fail
      refine (writeByte_any w.heap.size (w.heap.size + 1) _ _ w1 (.inr h1) (by rw [List.length_append, List.length_map]; simp; omega) (by omega)).mono ?_
      rintro e w2 ⟨rfl, h2, b2⟩
      go_wp2_with fail
      go_roundw
      case rel =>
        refine ⟨k + 1, by omega, by go_num, .inr ?_, (hB.trans b1).trans b2⟩
        rw [HHT.out, List.map_append]
        rw [hx_at, hx_at, List.append_assoc] at h2
        exact h2
      case measure => simp [intOf]; omega
    · have hfin : d.take k = d := List.take_of_length_le (by have := HDL.out; omega)
      rw [hfin] at hA
      have hne : hexs d ≠ [] := fun e => by have h := hexs_length d; rw [e] at h; have := HDL.out; simp at h; omega
      clear hfin
      go_wp2_with (go_at_call 26; refine (Try.Builder_String w.heap.size (w.heap.size + 1) (hexs d) _ hA hne).mono ?_; rintro e w1 ⟨rfl, b1⟩)
      go_ret
      exact ⟨rfl, hB.trans b1⟩
end Go.Proofs.Ytjpaajpjajoijaa
