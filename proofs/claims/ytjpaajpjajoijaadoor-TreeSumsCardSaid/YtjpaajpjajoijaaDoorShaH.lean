/- sha.Sum: parts, one behind the other. -/
import Derived.Test.YtjpaajpjajoijaaDoorShaG
namespace Go.Proofs.YtjpaajpjajoijaaDoor
open Go.RowKit Sha
/-- The texts l lie behind an address below B. -/
def Strs (w : World) (B : Nat) (A : Option Addr) (l : List ByteArray) : Prop := 0 < l.length → ∃ a : Addr, A = some a ∧ a.block < B ∧ ∀ (j : Nat) (s : ByteArray), l[j]? = some s → w.cell? (a.add j) = some (.string s)
theorem Strs.below {w w' : World} {B C : Nat} {A : Option Addr} {l : List ByteArray} (h : Strs w B A l) (hb : Below C w w') (hC : B ≤ C) : Strs w' B A l := fun h0 => by
  obtain ⟨a, h1, h2, h3⟩ := h h0
  refine ⟨a, h1, h2, fun j s hj => (hb.cell (p := a.add j) ?_).trans (h3 j s hj)⟩
  have : (a.add j).block = a.block := by unfold Addr.add; split <;> rfl
  omega
def joinB (l : List ByteArray) : List UInt8 := (l.map (·.data.toList)).flatten
theorem joinB_take (l : List ByteArray) (k : Nat) (h : k < l.length) : joinB (l.take (k + 1)) = joinB (l.take k) ++ l[k].data.toList := by
  unfold joinB
  rw [List.take_succ_eq_append_getElem h, List.map_append, List.flatten_append]
  simp
theorem joinB_le (l : List ByteArray) (k : Nat) : (joinB (l.take k)).length ≤ (joinB l).length := by
  conv => rhs; rw [← List.take_append_drop k l]
  unfold joinB
  rw [List.map_append, List.flatten_append, List.length_append]
  omega
set_option maxRecDepth 100000 in
theorem sum_parts (l : List ByteArray) (A : Option Addr) (c : Nat) (w : World) (hS : Strs w w.heap.size A l) (hn : l.length ≤ 9223372036854775807) (hl : (joinB l).length ≤ 140737488355328) :
    Calls Tryd.prog 54 #[.slice A l.length c] w fun e w' => e = .returned (D8 (joinB l)) ∧ Below w.heap.size w w' := by
  obtain ⟨D, hD, hs, h1c, hi⟩ := D8_shape (joinB l)
  have HZL : Hid ((zb 32).size = D.size) := Lib.hid (by rw [hs]; rfl)
  have HI := Lib.hid hi
  have HC := Lib.hid h1c
  have hsum : ∀ (B g : Nat) (w : World), HashAt w B g (joinB l) → Calls Tryd.prog 72 #[.pointer (some ⟨g, 0, none⟩)] w fun e w' => e = .returned (.agg D) ∧ Below w.heap.size w w' := fun B g w h => by
    rw [← hD]; exact sum_hash _ B g w h hl
  have HS' := Lib.hid hsum
  have HSS := Lib.hid hS
  rw [hD]
  clear hsum hD hs h1c hi hS
  have hB0 : Below w.heap.size w (w.alloc (.cells (zb 32) 39)) := (Below.refl _ _).alloc (Nat.le_refl _) _
  have hR0 := Blk.new w 39 (zb 32)
  go_enter Tryd.func54, Tryd.ntmps54
  go_wp2_with (first | (with_reducible refine wpList_allocR rfl 39 rfl (zb 32) (zero39 _) ?_) | (go_at_call 70; refine (new_hash _).mono ?_; rintro e w1 ⟨rfl, h1, b1⟩; rw [World.size_alloc] at h1 b1))
  go_loopw [9] (fun v wr => ∃ k : Nat, k ≤ l.length ∧ v = .int .i64 k ∧ HashAt wr (w.heap.size + 1) (w.heap.size + 1 + 1) (joinB (l.take k)) ∧ Below (w.heap.size + 1) (w.alloc (.cells (zb 32) 39)) wr) (fun v _ => l.length - (intOf v).toNat)
  case atStart => exact ⟨0, by omega, rfl, h1, b1⟩
  case round =>
    clear h1 b1
    obtain ⟨k, hk, rfl, hH, hb⟩ := hrel
    by_cases hlt : k < l.length
    · obtain ⟨a, rfl, hab, hcell⟩ := (HSS.out.below (hB0.trans (hb.mono (by omega))) (Nat.le_refl _)) (by omega)
      have hc := hcell k l[k] (List.getElem?_eq_getElem hlt)
      have hjt := joinB_take l k hlt
      have hjl := joinB_le l (k + 1)
      rw [hjt, List.length_append] at hjl
      obtain ⟨s, hs⟩ : ∃ s, s = l[k] := ⟨_, rfl⟩
      rw [← hs] at hc hjt hjl
      have HJT := Lib.hid hjt
      have HJL := Lib.hid hjl
      clear hs hjt hjl hcell
      go_wp2_with (go_at_call 71; refine (add_hash _ s _ _ _ hH (by have := HJL.out; omega)).mono ?_; rintro e w2 ⟨rfl, h2, b2⟩)
      go_roundw
      case rel => exact ⟨k + 1, by omega, by go_num, by rw [HJT.out]; exact h2, hb.trans b2⟩
      case measure => simp [intOf]; omega
    · have hfin : joinB (l.take k) = joinB l := by rw [List.take_of_length_le (by omega)]
      rw [hfin] at hH
      clear hfin
      have hR1 := hR0.below hb (by simp)
      have hsz := hb.size
      simp at hsz
      go_wp2_with (first | (go_at_call 72; refine (HS'.out _ _ _ hH).mono ?_; rintro e w2 ⟨rfl, b2⟩; have hR := hR1.below b2 (by omega)) | (with_reducible refine wpList_store_row rfl 39 (.tmp 2) (.tmp 18) rfl w.heap.size D rfl rfl 39 (zb 32) hR.heap HI.out HZL.out HC.out ?_))
      exact bodyPost_ret (results_cell_row rfl _ _ w.heap.size 39 D (0, 0) _ rfl (setRow_heap _ _ _ _ _ _ hR) Tryd.underlying39 rfl HI.out) rfl ⟨rfl, below_setRow ((hB0.trans (hb.mono (by omega))).trans (b2.mono (by omega))) (Nat.le_refl _) _⟩
end Go.Proofs.YtjpaajpjajoijaaDoor
