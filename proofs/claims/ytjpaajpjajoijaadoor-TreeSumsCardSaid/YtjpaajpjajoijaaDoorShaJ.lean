/- bloomeryref02.Sum. -/
import Derived.Test.YtjpaajpjajoijaaDoorShaI
namespace Go.Proofs.YtjpaajpjajoijaaDoor
open Go.RowKit Sha
theorem empty27 : Tryd.prog.built 39 [] = some (zb 32) := by kernel_rfl
theorem info27z : (Tryd.prog.info? 39).map (·.size) = some (zb 32).size := by kernel_rfl
theorem one_zb : (zb 32).all (·.oneCell') = true := by kernel_rfl
theorem pad_mod (m : List UInt8) : (pad m).length % 64 = 0 := by
  rw [pad, List.length_append]
  exact tail_length _
theorem BytesAt.drop {w : World} {b off t : Nat} {l : List UInt8} (h : BytesAt w b off l) : BytesAt w b (off + t) (l.drop t) := fun j hj => by
  rw [List.length_drop] at hj
  rw [Nat.add_assoc, h (t + j) (by omega)]
  simp [List.getD, List.getElem?_drop]
set_option maxHeartbeats 1000000 in
set_option maxRecDepth 100000 in
theorem rsum_any (s : ByteArray) (w : World) (hl : s.size ≤ 140737488355000) :
    Calls Tryd.prog 56 #[.string s] w fun e w' => e = .returned (D8 s.data.toList) ∧ Below w.heap.size w w' := by
  have hR0 := Blk.new w 39 (zb 32)
  have hS0 : WordsAt ((w.alloc (.cells (zb 32) 39)).alloc (.cells (Us iv.toList) 91)) (w.heap.size + 1) 0 iv.toList := by
    have := WordsAt.new (w.alloc (.cells (zb 32) 39)) iv
    rwa [World.size_alloc] at this
  have hB0 : Below (w.heap.size + 1) (w.alloc (.cells (zb 32) 39)) ((w.alloc (.cells (zb 32) 39)).alloc (.cells (Us iv.toList) 91)) := (Below.refl _ _).alloc (by simp) _
  have hB1 : Below w.heap.size w (w.alloc (.cells (zb 32) 39)) := (Below.refl _ _).alloc (Nat.le_refl _) _
  go_enter Tryd.func56, Tryd.ntmps56
  go_wp2_with (first
    | (with_reducible refine wpList_allocR rfl 39 rfl (zb 32) (zero39 _) ?_)
    | (go_at_call 77; refine (whole_any s 0 _ (by simp) hl).mono ?_; rintro e w1 ⟨A, c, rfl, hW, hb⟩))
  have hpm := pad_mod s.data.toList
  have hpl : (pad s.data.toList).length ≤ 140737488355328 := by
    have h1 : s.data.toList.length = s.size := rfl
    rw [pad, List.length_append]
    simp [tail, fill, len8, -Array.length_toList, h1]
    omega
  obtain ⟨F, hF⟩ : ∃ F, F = pad s.data.toList := ⟨_, rfl⟩
  rw [← hF] at hW hpm hpl ⊢
  have HD : Hid (D8 s.data.toList = .agg (dgs (blocks iv F (F.length / 64)) 32)) := Lib.hid (by rw [hF]; rfl)
  have hR1 := (hR0.alloc (.cells (Us iv.toList) 91)).below hb (by simp; omega)
  have hS1 := hS0.below hb (by simp)
  have hB2 : Below w.heap.size w w1 := (hB1.trans (hB0.mono (by omega))).trans (hb.mono (by simp; omega))
  have hsz : w.heap.size + 2 ≤ w1.heap.size := by have := hb.size; simpa using this
  have HPM := Lib.hid hpm
  clear hF hb hS0 hB0 hR0 hpm hB1
  go_loopw [3, 5] (fun v i wr => ∃ (t gh ch : Nat), t ≤ F.length ∧ t % 64 = 0 ∧ v = .slice (some ⟨gh, 0, none⟩) 8 ch ∧ i = .int .i64 (t : Int) ∧ WordsAt wr gh 0 (blocks iv F (t / 64)).toList ∧ Below w1.heap.size w1 wr) (fun _ i _ => (F.length - (intOf i).toNat))
  case atStart => exact ⟨0, w.heap.size + 1, 8, by omega, rfl, rfl, rfl, hS1, Below.refl _ _⟩
  case round =>
    clear hS1
    obtain ⟨t, gh, ch, ht, ht64, rfl, rfl, hS, hX⟩ := hrel
    have HT := Lib.hid ht64
    have hpm := HPM.out
    have hc1 := hW.1
    have hc2 := hW.2.1
    unfold maxLen at hc2
    by_cases hlt : t < F.length
    · obtain ⟨b, off, rfl, hbB, hb0, hbs, hby⟩ := hW.at_ (by omega)
      have q1 : (t : Int) + 64 ≤ (c : Int) := by omega
      have q2 : (t : Int) + 64 ≤ (F.length : Int) := by omega
      have q3 : (t : Int) < (F.length : Int) := by omega
      clear ht64 hpm
      have hb3 : BytesAt wr b (off + t) ((F.drop t).take 64) := ((hby.below hX hbs).drop).take
      go_wp2_with (go_at_call 78; refine (block_any (blocks iv F (t / 64)) ((F.drop t).take 64) (by rw [List.length_take, List.length_drop]; omega) b (off + t) (c - t) gh 0 ch _ hb3 (blocks_ok _ _ _ ok_iv) hS (by omega)).mono ?_; rintro e w2 ⟨g2, c2, rfl, hS2, hX2, hg2⟩)
      go_roundw
      case rel =>
        have ht64 := HT.out
        have hpm := HPM.out
        refine ⟨t + 64, g2, c2, by omega, by omega, rfl, by go_num, ?_, hX.trans (hX2.mono hX.size)⟩
        · rw [show (t + 64) / 64 = t / 64 + 1 from by omega, blocks_succ, show 64 * (t / 64) = t from by omega]
          exact hS2
      case measure => simp [intOf]; omega
    · have hfin : blocks iv F (t / 64) = blocks iv F (F.length / 64) := by rw [show t = F.length from by omega]
      obtain ⟨T, hTT⟩ : ∃ T, T = blocks iv F (t / 64) := ⟨_, rfl⟩
      rw [← hTT] at hS
      have HTT := Lib.hid (hTT.trans hfin)
      clear hTT hfin hpm ht64
      have hsx := hX.size
      have hD := Blk.new wr 39 (zb 32)
      go_wp2_with (first
        | (with_reducible refine wpList_buildR rfl 39 _ rfl (zb 32) empty27 ?_)
        | (with_reducible refine wpList_allocR rfl 39 rfl (zb 32) (zero39 _) ?_)
        | (with_reducible refine wpList_storeR rfl 39 (.tmp 6) (.tmp 24) rfl 39 (zb 32) (zb 32) rfl rfl info27z rfl one_zb ?_))
      go_loopw [7] (fun v wx => ∃ i : Nat, i ≤ 32 ∧ v = .int .i64 i ∧ Blk wx wr.heap.size 39 (dgs T i) ∧ Below wr.heap.size wr wx) (fun v _ => 32 - (intOf v).toNat)
      case atStart => exact ⟨0, by omega, rfl, by rw [dgs_zero]; exact hD, (Below.refl _ _).alloc (Nat.le_refl _) _⟩
      case round =>
        clear hD
        obtain ⟨i, hil, rfl, hD, hY⟩ := hrel
        by_cases hlt : i < 32
        · have hfD := hD.frozen i
          have hcD := (hD.cell i).trans (dgs_at T i hlt)
          have hcS := (hS.below hY hS.lt) (i / 4) (by simp [St.toList]; omega)
          have hdg := dig_spell T i _ rfl
          obtain ⟨x, hx⟩ : ∃ x, x = T.toList.getD (i / 4) 0 := ⟨_, rfl⟩
          rw [← hx] at hcS hdg
          rw [Nat.zero_add] at hcS
          clear hx
          go_wp2_with (fail)
          go_roundw
          case rel =>
            refine ⟨i + 1, by omega, by go_num, ?_, hY.setCell (Nat.le_refl _) _⟩
            have := hD.set_ i (.int .u8 (dig T i : Int))
            rw [dgs_set T i] at this
            exact this
          case measure => simp [intOf]; omega
        · have HIL := Lib.hid (info39 T i)
          have HZL : Hid ((zb 32).size = (dgs T i).size) := Lib.hid (by rw [dgs_size]; rfl)
          have HFD : Hid (dgs T i = dgs (blocks iv F (F.length / 64)) 32) := Lib.hid (by rw [HTT.out, show i = 32 from by omega])
          have hR := (hR1.below hX (by omega)).below hY (by omega)
          go_wp2_with (first | (with_reducible refine wpList_load_row rfl 39 (.tmp 6) rfl _ rfl 39 (dgs T i) (0, 0) _ hD.heap Tryd.underlying39 rfl HIL.out ?_) | (with_reducible refine wpList_store_row rfl 39 (.tmp 2) (.tmp 42) rfl w.heap.size (dgs T i) rfl rfl 39 (zb 32) hR.heap HIL.out HZL.out (one_dgs T i) ?_))
          exact bodyPost_ret (results_cell_row rfl _ _ w.heap.size 39 (dgs T i) (0, 0) _ rfl (setRow_heap _ _ _ _ _ _ hR) Tryd.underlying39 rfl HIL.out) rfl ⟨by rw [HD.out, HFD.out], below_setRow ((hB2.trans (hX.mono (by omega))).trans (hY.mono (by omega))) (Nat.le_refl _) _⟩
end Go.Proofs.YtjpaajpjajoijaaDoor
