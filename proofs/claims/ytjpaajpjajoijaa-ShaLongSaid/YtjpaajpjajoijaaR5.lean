/- The law ShaLong, walked. -/
import Derived.Test.YtjpaajpjajoijaaQ
import Derived.Deep.RegionHeld3
namespace Go.Proofs.Ytjpaajpjajoijaa
set_option linter.unusedSimpArgs false
open Go.RowKit Sha
/-- The bytes of a row of m, the first k of which are b. -/
def lng (b : UInt8) (m k : Nat) : List UInt8 := List.replicate k b ++ List.replicate (m - k) 0
theorem lng_zero (b : UInt8) (m : Nat) : (lng b m 0).map Bv = List.replicate m (.int .u8 0) := by simp [lng, Bv]
theorem lng_length (b : UInt8) (m k : Nat) (h : k ≤ m) : (lng b m k).length = m := by simp [lng]; omega
theorem lng_set (b : UInt8) (m k : Nat) (h : k < m) : ((lng b m k).map Bv).set k (.int .u8 (b.toNat : Int)) = (lng b m (k + 1)).map Bv := by
  rw [show (.int .u8 (b.toNat : Int) : Value) = Bv b from rfl, ← List.map_set]
  congr 1
  unfold lng
  rw [List.set_append_right _ _ (by simp), List.length_replicate, Nat.sub_self, show m - k = (m - (k + 1)) + 1 from by omega, List.replicate_succ, List.set_cons_zero, List.replicate_succ', List.append_assoc]
  rfl
theorem lng_full (b : UInt8) (m : Nat) : lng b m m = List.replicate m b := by simp [lng]
theorem one_text_at {w : World} {s : ByteArray} {g : Nat} (h : w.cell? ⟨g, 0, none⟩ = some (.string s)) : Strs w w.heap.size (some ⟨g, 0, none⟩) [s] := fun _ => ⟨_, rfl, World.block_lt_of_cell? _ _ h, fun j u hj => by
  match j, hj with
  | 0, hj =>
    simp at hj
    subst hj
    exact h⟩
set_option maxHeartbeats 1000000 in
set_option maxRecDepth 100000 in
theorem shaLong_any (b n : UInt8) (w : World) :
    Calls Try.prog 5 #[.int .u8 (b.toNat : Int), .int .u8 (n.toNat : Int)] w fun e w' => e = .returned (.bool true) ∧ Below w.heap.size w w' := by
  obtain ⟨i0, hi, hz0, hz1, hz2⟩ := info_parts info5
  have hn := n.toNat_lt
  obtain ⟨m, hm⟩ : ∃ m, m = n.toNat % 200 := ⟨_, rfl⟩
  have hm1 : m < 200 := by omega
  have HMM : Hid (((n.toNat : Int) % 200) = (m : Int)) := Lib.hid (by omega)
  obtain ⟨T, hT⟩ : ∃ T : ByteArray, T = ⟨(List.replicate m b).toArray⟩ := ⟨_, rfl⟩
  have hTl : T.data.toList = List.replicate m b := by rw [hT]
  have hsum := fun (w : World) (g : Nat) (hc : w.cell? ⟨g, 0, none⟩ = some (.string T)) => sum_parts [T] (some ⟨g, 0, none⟩) 1 w (one_text_at hc) (by simp) (by simp [joinB, hT]; omega)
  have hrs := fun (w : World) => rsum_any T w (by rw [hT]; show (List.replicate m b).length ≤ _; simp; omega)
  rw [show joinB [T] = List.replicate m b from by simp [joinB, hT]] at hsum
  rw [hTl] at hrs
  simp only [show ([T] : List ByteArray).length = 1 from rfl, D8_Dg] at hsum
  simp only [D8_Dg] at hrs
  have HT := Lib.hid hT
  clear hTl hT
  clear hm
  obtain ⟨d, hd⟩ : ∃ d, d = digB (List.replicate m b) := ⟨_, rfl⟩
  have hl : d.length = 32 := by rw [hd]; exact digB_length _
  rw [← hd] at hsum hrs
  have HE := Lib.hid (eq27 d hl)
  clear hd hl
  go_enter Try.func5, Try.ntmps5
  go_wp2_with (at_make; refine wpList_make_full _ rfl (.tmp 9) (.tmp 9) 35 rfl w.heap.size 5 i0 (.int .u8 0) 1 Try.underlying35 hi hz0 hz1 .i64 .i64 ((n.toNat : Int) % 200) ((n.toNat : Int) % 200) m rfl rfl HMM.out HMM.out (by rw [hz2]; omega) (by unfold maxLen; omega) (Nat.le_refl _) ?_; intro w1 hown hgrow; rw [Nat.mul_one, show (Value.int .u8 0).cells = #[.int .u8 0] from rfl, toList_madeCells_one, ← lng_zero b] at hown)
  have hB1 : Below w.heap.size w w1 := (Below.refl _ _).grown hgrow (Nat.le_refl _) (fun k e => by cases e)
  go_loopw [6] (fun v wr => ∃ k : Nat, k ≤ m ∧ v = .int .i64 k ∧ wr.ownsRow w.heap.size 5 1 (.slice (some ⟨w.heap.size, 0, none⟩) m m) m ((lng b m k).map Bv) ∧ Below w.heap.size w wr) (fun v _ => m - (intOf v).toNat)
  case atStart => exact ⟨0, by omega, rfl, hown, hB1⟩
  case round =>
    clear hown hB1 hgrow
    obtain ⟨k, hk, rfl, hown, hB⟩ := hrel
    by_cases hlt : k < m
    · have hck := hown.cellAt k (by omega)
      rw [List.getElem?_eq_getElem (by rw [List.length_map, lng_length _ _ _ hk]; exact hlt)] at hck
      have hfk := hown.frozenAt k
      obtain ⟨u, hu⟩ : ∃ u, u = ((lng b m k).map Bv)[k]'(by rw [List.length_map, lng_length _ _ _ hk]; exact hlt) := ⟨_, rfl⟩
      rw [← hu] at hck
      clear hu
      go_wp2
      go_roundw
      case rel =>
        refine ⟨k + 1, by omega, by go_num, ?_, hB.setCell (Nat.le_refl _) _⟩
        have h2 := (hown.stored k (.int .u8 (b.toNat : Int))).1
        rw [lng_set b m k hlt] at h2
        exact h2
      case measure => simp [intOf]; omega
    · have hfin : (lng b m k).map Bv = (List.replicate m b).map Bv := by rw [show k = m from by omega, lng_full]
      rw [hfin] at hown
      clear hfin
      have hconv : ∀ w' : World, Below wr.heap.size wr w' → (convert 35 9 (.slice (some ⟨w.heap.size, 0, none⟩) m m)).run Try.prog w' = .ok (.string T) w' := fun w' hb => by
        rw [HT.out]
        have h := run_convert_bytes_back (P := Try.prog) w' 35 9 5 ⟨w.heap.size, 0, none⟩ m (List.replicate m b) Try.underlying35 agg5 Try.underlying9 (fun j hj => by
          have hj' : j < m := by simpa using hj
          rw [show (⟨w.heap.size, 0, none⟩ : Addr).add j = ⟨w.heap.size, j, none⟩ from by unfold Addr.add; split <;> simp_all]
          refine (hb.cell (p := ⟨w.heap.size, j, none⟩) (hown.lt _ rfl).2).trans ?_
          rw [hown.cellAt j (by omega)]
          simp [Bv, hj'])
        rw [List.length_replicate] at h
        exact h
      go_wp2
      refine wp_region_held_drew (S := fun w' => Below wr.heap.size wr w') (by kernel_rfl) ((Below.refl _ _).drew) (fun hS0 => ?_)
      refine wpAnyH_take (i := 0) (v := .slice (some ⟨w.heap.size, 0, none⟩) m m) rfl (by kernel_rfl) (by kernel_rfl) (by kernel_rfl) (fun _ _ _ h => h) (Or.inl ⟨by rfl, fun w' _ => by go_simp⟩) hS0 ?_
      refine wpAnyH_take (i := 1) (v := .string T) rfl (by kernel_rfl) (by kernel_rfl) (by kernel_rfl) (fun _ _ _ h => h) (Or.inl ⟨by rfl, fun w' h => by have hc := hconv w' h; go_simp⟩) hS0 ?_
      refine wpAnyH_take (i := 4) (v := .slice (some ⟨w.heap.size, 0, none⟩) m m) rfl (by kernel_rfl) (by kernel_rfl) (by kernel_rfl) (fun _ _ _ h => h) (Or.inl ⟨by rfl, fun w' _ => by go_simp⟩) hS0 ?_
      refine wpAnyH_take (i := 5) (v := .string T) rfl (by kernel_rfl) (by kernel_rfl) (by kernel_rfl) (fun _ _ _ h => h) (Or.inl ⟨by rfl, fun w' h => by have hc := hconv w' h; go_simp⟩) hS0 ?_
      simp only [Act.put, List.setIfInBounds_toArray, List.set_cons_zero, List.set_cons_succ, List.getElem_toArray, List.getElem_cons_succ, List.getElem_cons_zero]
      refine wpAnyH_ready (rs := [2]) (by kernel_rfl) (by simp) (AllReadyH.cons (i := 2) rfl (fun K hK => ?_) AllReadyH.nil)
      rw [if_pos (wanted_none rfl)]
      simp only [Act.put, List.setIfInBounds_toArray, List.set_cons_zero, List.set_cons_succ, List.getElem_toArray, List.getElem_cons_succ, List.getElem_cons_zero]
      go_wp2
      refine hK.out _ _ (hS0.alloc (Nat.le_refl _) _) (fun hS1 => ?_)
      clear hK K
      refine wpAnyH_ready (rs := [3]) (by kernel_rfl) (by simp) (AllReadyH.cons (i := 3) rfl (fun K hK => ?_) AllReadyH.nil)
      rw [if_pos (wanted_none rfl)]
      simp only [Act.put, List.setIfInBounds_toArray, List.set_cons_zero, List.set_cons_succ, List.getElem_toArray, List.getElem_cons_succ, List.getElem_cons_zero]
      go_wp2_with (go_at_call 10; refine (hsum (wr.alloc (.cells #[.string T] 9)).drew wr.heap.size ((Blk.new wr 9 #[.string T]).cell 0)).mono ?_; rintro e w2 ⟨rfl, b2⟩)
      have hS2 : Below wr.heap.size wr w2 := (((Below.refl _ _).alloc (Nat.le_refl _) (.cells #[.string T] 9)).drew).trans (b2.mono (by simp))
      refine hK.out _ _ hS2 (fun hS2' => ?_)
      clear hK K
      refine wpAnyH_ready (rs := [6]) (by kernel_rfl) (by simp) (AllReadyH.cons (i := 6) rfl (fun K hK => ?_) AllReadyH.nil)
      rw [if_pos (wanted_none rfl)]
      simp only [Act.put, List.setIfInBounds_toArray, List.set_cons_zero, List.set_cons_succ, List.getElem_toArray, List.getElem_cons_succ, List.getElem_cons_zero]
      go_wp2_with (go_at_call 11; refine (hrs _).mono ?_; rintro e w3 ⟨rfl, b3⟩)
      have hS3 : Below wr.heap.size wr w3 := hS2.trans (b3.mono hS2.size)
      refine hK.out _ _ hS3 (fun hS3' => ?_)
      clear hK K
      refine wpAnyH_ready (rs := [7]) (by kernel_rfl) (by simp) (AllReadyH.cons (i := 7) rfl (fun K hK => ?_) AllReadyH.nil)
      rw [if_pos (wanted_none rfl)]
      simp only [Act.put, List.setIfInBounds_toArray, List.set_cons_zero, List.set_cons_succ, List.getElem_toArray, List.getElem_cons_succ, List.getElem_cons_zero]
      have he := HE.out w3
      go_wp2
      refine hK.out _ _ hS3 (fun hS3' => ?_)
      clear hK K he
      refine wpAnyH_ready (rs := [8]) (by kernel_rfl) (by simp) (AllReadyH.cons (i := 8) rfl (fun K hK => ?_) AllReadyH.nil)
      rw [if_pos (wanted_none rfl)]
      simp only [Act.put, List.setIfInBounds_toArray, List.set_cons_zero, List.set_cons_succ, List.getElem_toArray, List.getElem_cons_succ, List.getElem_cons_zero]
      go_wp2
      refine hK.out _ _ hS3 (fun hS3' => ?_)
      clear hK K
      refine wpAnyH_ready (rs := [9]) (by kernel_rfl) (by simp) (AllReadyH.cons (i := 9) rfl (fun K hK => ?_) AllReadyH.nil)
      rw [if_pos (by rfl)]
      simp only [Act.put, List.setIfInBounds_toArray, List.set_cons_zero, List.set_cons_succ, List.getElem_toArray, List.getElem_cons_succ, List.getElem_cons_zero]
      go_wp2_with (go_at_call 9; refine (fixed_any _).mono ?_; rintro e w4 ⟨rfl, b4⟩)
      have hS4 : Below wr.heap.size wr w4 := hS3.trans (b4.mono hS3.size)
      refine hK.out _ _ hS4 (fun hS4' => ?_)
      clear hK K
      refine wpAnyH_ready (rs := [10]) (by kernel_rfl) (by simp) (AllReadyH.cons (i := 10) rfl (fun K hK => ?_) AllReadyH.nil)
      rw [if_pos (wanted_none rfl)]
      simp only [Act.put, List.setIfInBounds_toArray, List.set_cons_zero, List.set_cons_succ, List.getElem_toArray, List.getElem_cons_succ, List.getElem_cons_zero]
      go_wp2
      refine hK.out _ _ hS4 (fun hS4' => ?_)
      clear hK K
      refine wpAnyH_ready (rs := [11]) (by kernel_rfl) (by simp) (AllReadyH.cons (i := 11) rfl (fun K hK => ?_) AllReadyH.nil)
      rw [if_pos (wanted_none rfl)]
      simp only [Act.put, List.setIfInBounds_toArray, List.set_cons_zero, List.set_cons_succ, List.getElem_toArray, List.getElem_cons_succ, List.getElem_cons_zero]
      go_wp2
      refine hK.out _ _ hS4 (fun hS4' => ?_)
      clear hK K
      refine wpAnyH_done (by kernel_rfl) ?_ _
      go_wp2
      go_ret
      exact ⟨rfl, hB.trans (hS4.mono hB.size)⟩
end Go.Proofs.Ytjpaajpjajoijaa
