/- sha.Of. -/
import Derived.Test.YtjpaajpjajoijaaS
import Derived.Test.YtjpaajpjajoijaaShelf
namespace Go.Proofs.Ytjpaajpjajoijaa
set_option linter.unusedVariables false
open Go.RowKit Sha
theorem idx_any (x : UInt8) (w : World) : Calls Try.prog 23 #[.string ⟨#[48, 49, 50, 51, 52, 53, 54, 55, 56, 57, 97, 98, 99, 100, 101, 102]⟩, .int .u8 (x.toNat : Int)] w fun e w' => e = .returned (.int .i64 (dgv x)) ∧ w' = w := by
  refine (Try.strings_IndexByte _ _ w).mono ?_
  rintro e w' ⟨rfl, rfl⟩
  refine ⟨?_, rfl⟩
  rw [← index_dgv x]
  congr 4
  simp
set_option maxHeartbeats 400000 in
set_option maxRecDepth 100000 in
theorem sof_any (s : ByteArray) (w : World) (hs : s.size ≤ maxLen) :
    Calls Try.prog 15 #[.string s] w fun e w' => e = .returned (.tuple #[.agg (Dg (ofD s.data.toList)), .bool (ofOk s.data.toList)]) ∧ Below w.heap.size w w' := by
  unfold maxLen at hs
  have hR0 := Blk.new w 27 (zb 32)
  have hD0 : Blk ((w.alloc (.cells (zb 32) 27)).alloc (.cells (zb 32) 27)) (w.heap.size + 1) 27 (zb 32) := by
    have := Blk.new (w.alloc (.cells (zb 32) 27)) 27 (zb 32)
    rwa [World.size_alloc] at this
  have hR1 := hR0.alloc (.cells (zb 32) 27)
  have hB1 : Below w.heap.size w ((w.alloc (.cells (zb 32) 27)).alloc (.cells (zb 32) 27)) := ((Below.refl _ _).alloc (Nat.le_refl _) _).alloc (by simp) _
  by_cases h64 : s.size = 64
  · go_enter Try.func15, Try.ntmps15
    have q64b : ((s.size : Int) != 64) = false := by simp; omega
    have H64 := Lib.hid h64
    clear h64
    go_wp2_with (first
      | (with_reducible refine wpList_allocR rfl 27 rfl (zb 32) (zero27 _) ?_)
      | (with_reducible refine wpList_buildR rfl 27 _ rfl (zb 32) empty27 ?_)
      | (with_reducible refine wpList_storeR rfl 27 (.tmp 4) (.tmp 999) rfl 27 (zb 32) (zb 32) rfl rfl info27z rfl one_zb ?_))
    go_loopw [12] (fun v wr => ∃ k : Nat, k ≤ 32 ∧ v = .int .i64 k ∧ okTo s.data.toList k ∧ Blk wr (w.heap.size + 1) 27 (Dg (dgo s.data.toList k)) ∧ Blk wr w.heap.size 27 (zb 32) ∧ Below w.heap.size w wr) (fun v _ => 32 - (intOf v).toNat)
    case atStart => exact ⟨0, by omega, rfl, fun j hj => absurd hj (by omega), by rw [dgo_zero]; exact hD0, hR1, hB1⟩
    case round =>
      clear hD0 hR0 hR1 hB1
      obtain ⟨k, hk, rfl, hok, hD, hR, hB⟩ := hrel
      have HOK := Lib.hid hok
      clear hok
      by_cases hlt : k < 32
      · have i1 : 2 * k < s.size := by have := H64.out; omega
        have i2 : 2 * k + 1 < s.size := by have := H64.out; omega
        have q2 : 2 * (k : Int) < (s.size : Int) := by omega
        have q5 : 2 * (k : Int) + 1 < (s.size : Int) := by omega
        obtain ⟨h, hh⟩ : ∃ h, h = dgv (s.data.toList.getD (2 * k) 0) := ⟨_, rfl⟩
        obtain ⟨l, hl⟩ : ∃ l, l = dgv (s.data.toList.getD (2 * k + 1) 0) := ⟨_, rfl⟩
        have dh : ∀ w, Calls Try.prog 23 #[.string ⟨#[48, 49, 50, 51, 52, 53, 54, 55, 56, 57, 97, 98, 99, 100, 101, 102]⟩, .int .u8 (s[2 * k].toNat : Int)] w fun e w' => e = .returned (.int .i64 h) ∧ w' = w := fun w => by
          have e : s[2 * k] = s.data.toList.getD (2 * k) 0 := by rw [List.getD, List.getElem?_eq_getElem (show 2 * k < s.data.toList.length from i1)]; rfl
          rw [hh, ← e]
          exact idx_any _ w
        have dl : ∀ w, Calls Try.prog 23 #[.string ⟨#[48, 49, 50, 51, 52, 53, 54, 55, 56, 57, 97, 98, 99, 100, 101, 102]⟩, .int .u8 (s[2 * k + 1].toNat : Int)] w fun e w' => e = .returned (.int .i64 l) ∧ w' = w := fun w => by
          have e : s[2 * k + 1] = s.data.toList.getD (2 * k + 1) 0 := by rw [List.getD, List.getElem?_eq_getElem (show 2 * k + 1 < s.data.toList.length from i2)]; rfl
          rw [hl, ← e]
          exact idx_any _ w
        have hh16 : h < 16 := by rw [hh]; exact dgv_lt _
        have hl16 : l < 16 := by rw [hl]; exact dgv_lt _
        have HH := Lib.hid hh
        have HL := Lib.hid hl
        have DH := Lib.hid dh
        have DL := Lib.hid dl
        clear hh hl dh dl
        go_wp2_with fail
        have q1 : (0 : Int) ≤ 2 * (k : Int) := by omega
        have q3 : (2 * (k : Int)).toNat = 2 * k := by omega
        have q4 : (0 : Int) ≤ 2 * (k : Int) + 1 := by omega
        have q6 : (2 * (k : Int) + 1).toNat = 2 * k + 1 := by omega
        have q7 : IntKind.i64.wrap (2 * (k : Int)) = 2 * (k : Int) := IntWalk.i64_in _ (by omega)
        have q8 : IntKind.i64.wrap (2 * (k : Int) + 1) = 2 * (k : Int) + 1 := IntWalk.i64_in _ (by omega)
        go_quiet ((go_at_call 23; first | (with_reducible exact Calls.quiet_of_same (DH.out _)) | (with_reducible exact Calls.quiet_of_same (DL.out _)) | (with_reducible exact quiet_add_same (DH.out _)) | (with_reducible exact quiet_add_same (DL.out _))))
        clear q7 q8
        by_cases hgood : 0 ≤ h ∧ 0 ≤ l
        · have g1 : ¬ h < 0 := by omega
          have g2 : ¬ l < 0 := by omega
          have g3 : 0 ≤ h := hgood.1
          have g4 : 0 ≤ l := hgood.2
          have hby := byteOf_spell s.data.toList k h l HH.out HL.out g3 g4
          obtain ⟨x, hx⟩ : ∃ x, x = byteOf s.data.toList k := ⟨_, rfl⟩
          rw [← hx] at hby
          have hx2 := x.toNat_lt
          have hfD := hD.frozen k
          have hcD : wr.cell? ⟨w.heap.size + 1, k, none⟩ = some (.int .u8 (((dgo s.data.toList k)[k]'(by rw [dgo_length]; exact hlt)).toNat : Int)) := (hD.cell k).trans (Dg_get _ k (by rw [dgo_length]; exact hlt))
          obtain ⟨u, hu⟩ : ∃ u, u = (dgo s.data.toList k)[k]'(by rw [dgo_length]; exact hlt) := ⟨_, rfl⟩
          rw [← hu] at hcD
          have hor := or_dig h l g3 hh16 g4 hl16
          have HBY := Lib.hid hby
          have HX := Lib.hid hx
          clear hu hgood hx
          go_wp2_with fail
          go_roundw
          case rel =>
            refine ⟨k + 1, by omega, by go_num, fun j hj => ?_, ?_, (hR.drewN nq).far (by simp) _, (below_drewN hB nq).setCell (p := ⟨w.heap.size + 1, k, none⟩) (by simp) _⟩
            · rcases Nat.lt_or_ge j k with h1 | h1
              · exact HOK.out j h1
              · obtain rfl : j = k := by omega
                rw [← HH.out, ← HL.out]
                exact ⟨g3, g4⟩
            · have h5 := (hD.drewN nq).set_ k (.int .u8 ((byteOf s.data.toList k).toNat : Int))
              rw [dgo_set, ← HX.out] at h5
              exact h5
          case measure => simp [intOf]; omega
        · have hbad := of_bad s.data.toList (fun hc => hgood (by rw [HH.out, HL.out]; exact hc.2 k hlt))
          have HBAD := Lib.hid hbad
          clear hbad
          have hB2 := below_setRow (below_drewN hB nq) (Nat.le_refl _) (zb 32)
          by_cases g1 : h < 0
          · go_wp2_with (first
              | (with_reducible refine wpList_buildR rfl 27 _ rfl (zb 32) empty27 ?_)
              | (with_reducible refine wpList_store_row rfl 27 (.tmp 2) (.tmp 32) rfl w.heap.size (zb 32) rfl rfl 27 (zb 32) (hR.drewN nq).heap info27z rfl one_zb ?_))
            exact bodyPost_ret (results_row_tmp rfl _ _ w.heap.size 27 (zb 32) (0, 0) _ rfl (setRow_heap _ _ _ _ _ _ (hR.drewN nq)) Try.underlying27 rfl info27z) rfl ⟨by rw [HBAD.out.1, HBAD.out.2]; rfl, hB2⟩
          · have g2 : l < 0 := by omega
            go_wp2_with (first
              | (with_reducible refine wpList_buildR rfl 27 _ rfl (zb 32) empty27 ?_)
              | (with_reducible refine wpList_store_row rfl 27 (.tmp 2) (.tmp 32) rfl w.heap.size (zb 32) rfl rfl 27 (zb 32) (hR.drewN nq).heap info27z rfl one_zb ?_))
            exact bodyPost_ret (results_row_tmp rfl _ _ w.heap.size 27 (zb 32) (0, 0) _ rfl (setRow_heap _ _ _ _ _ _ (hR.drewN nq)) Try.underlying27 rfl info27z) rfl ⟨by rw [HBAD.out.1, HBAD.out.2]; rfl, hB2⟩
      · have hgood := of_good s.data.toList ⟨H64.out, by rw [show 32 = k from by omega]; exact HOK.out⟩
        rw [show (32 : Nat) = k from by omega] at hgood
        have HG := Lib.hid hgood
        have HIL := Lib.hid (info27d (dgo s.data.toList k) (dgo_length _ _))
        have HZL : Hid ((zb 32).size = (Dg (dgo s.data.toList k)).size) := Lib.hid (by rw [Dg_size, dgo_length]; rfl)
        clear hgood
        go_wp2_with (first
          | (with_reducible refine wpList_load_row rfl 27 (.tmp 4) rfl (w.heap.size + 1) rfl 27 (Dg (dgo s.data.toList k)) (0, 0) _ hD.heap Try.underlying27 rfl HIL.out ?_)
          | (with_reducible refine wpList_store_row rfl 27 (.tmp 2) (.tmp 41) rfl w.heap.size (Dg (dgo s.data.toList k)) rfl rfl 27 (zb 32) hR.heap HIL.out HZL.out (one_Dg _) ?_))
        exact bodyPost_ret (results_row_tmp rfl _ _ w.heap.size 27 (Dg (dgo s.data.toList k)) (0, 0) _ rfl (setRow_heap _ _ _ _ _ _ hR) Try.underlying27 rfl HIL.out) rfl ⟨by rw [HG.out.1, HG.out.2]; rfl, below_setRow hB (Nat.le_refl _) _⟩
  · go_enter Try.func15, Try.ntmps15
    have q64b : ((s.size : Int) != 64) = true := by simp; omega
    have hbad := of_bad s.data.toList (fun h => h64 h.1)
    go_wp2_with (first
      | (with_reducible refine wpList_allocR rfl 27 rfl (zb 32) (zero27 _) ?_)
      | (with_reducible refine wpList_buildR rfl 27 _ rfl (zb 32) empty27 ?_)
      | (with_reducible refine wpList_storeR rfl 27 (.tmp 4) (.tmp 999) rfl 27 (zb 32) (zb 32) rfl rfl info27z rfl one_zb ?_)
      | (with_reducible refine wpList_load_row rfl 27 (.tmp 4) rfl (w.heap.size + 1) rfl 27 (zb 32) (0, 0) _ hD0.heap Try.underlying27 rfl info27z ?_)
      | (with_reducible refine wpList_store_row rfl 27 (.tmp 2) (.tmp 11) rfl w.heap.size (zb 32) rfl rfl 27 (zb 32) hR1.heap info27z rfl one_zb ?_))
    exact bodyPost_ret (results_row_tmp rfl _ _ w.heap.size 27 (zb 32) (0, 0) _ rfl (setRow_heap _ _ _ _ _ _ hR1) Try.underlying27 rfl info27z) rfl ⟨by rw [hbad.1, hbad.2]; rfl, below_setRow hB1 (Nat.le_refl _) _⟩
end Go.Proofs.Ytjpaajpjajoijaa
