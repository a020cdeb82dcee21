/- bloomeryref05.Sum. -/
import Derived.Test.YtjpaajpjajoijaaDoorTSum
import Derived.Shelf.RegionOpenPlain
namespace Go.Proofs.YtjpaajpjajoijaaDoor
set_option linter.unusedVariables false
open Go.RowKit Sha
set_option maxHeartbeats 4000000 in
set_option maxRecDepth 100000 in
theorem rsum05_any (l : List FileB) (A : Option Addr) (c : Nat) (w : World) (hF : Files w w.heap.size A l) (hs : Small l) (hl : l.length ≤ 100) :
    Calls Tryd.prog 24 #[.slice A l.length c] w fun e w' => e = .returned (sumV l) ∧ Below w.heap.size w w' := by
  obtain ⟨W0, hW0⟩ : ∃ W0, W0 = w.alloc (.cells (zb 32) 39) := ⟨_, rfl⟩
  have hB0 : Below w.heap.size w W0 := by rw [hW0]; exact (Below.refl _ _).alloc (Nat.le_refl _) _
  have hR0 : Blk W0 w.heap.size 39 (zb 32) := by rw [hW0]; exact Blk.new w 39 (zb 32)
  have hz0 : W0.heap.size = w.heap.size + 1 := by rw [hW0, World.size_alloc]
  have hF0 : Files W0 W0.heap.size A l := (hF.below hB0 (Nat.le_refl _)).more (by omega)
  have hck := rcheck_any l A c W0 hF0 hs
  have hsv : sumV l = if checkL l = 0 then D8 (rowT (textsF l)).data.toList else .agg (zb 32) := rfl
  have hrs := rowT_size (textsF l) (textsF_small hs.2)
  have htl := textsF_len l
  have hrow := fun A' c' w' h => rrow_any (textsF l) A' c' w' h (by omega) (textsF_small hs.2)
  have hst := fun k h => textsF_succ l k h
  obtain ⟨D, hD, hDz, hD1, hDi⟩ := sumV_shape l
  have hdl := fun f hf => hs.2 f hf
  obtain ⟨C, hC⟩ : ∃ C, C = checkL l := ⟨_, rfl⟩
  rw [← hC] at hck hsv
  rw [hD] at hsv ⊢
  obtain ⟨i0, hi, hzz, hz1, hz2⟩ := info_parts info9p
  have HCK := Lib.hid hck
  have HROW := Lib.hid hrow
  have HST := Lib.hid hst
  have HF0 := Lib.hid hF0
  have HW0 := Lib.hid hW0
  have HR0 := Lib.hid hR0
  have HDZ := Lib.hid hDz
  have HD1 := Lib.hid hD1
  have HDI := Lib.hid hDi
  have HTL := Lib.hid htl
  have hz0' : w.heap.size + 1 ≤ W0.heap.size := by omega
  have hrl : (rowT (textsF l)).size ≤ 602000 := by
    have h5 := hrs (textsF l).length (Nat.le_refl _)
    rw [List.take_length] at h5
    omega
  clear hck hrow hst hF0 hW0 hR0 hDz hD1 hDi hF hrs hz0 htl hD
  by_cases hC0 : C = 0
  · rw [if_pos hC0] at hsv
    subst hC0
    have hsum := fun w' => rsum_any (rowT (textsF l)) w' (by omega)
    rw [← hsv] at hsum
    have HSUM := Lib.hid hsum
    clear hsum hsv hC
    obtain ⟨RT, hRT⟩ : ∃ RT, RT = rowT (textsF l) := ⟨_, rfl⟩
    rw [← hRT] at HROW HSUM
    clear hRT hrl
    go_enter Tryd.func24, Tryd.ntmps24
    go_wp2_with (with_reducible refine wpList_allocR rfl 39 rfl (zb 32) (zero39 _) ?_; rw [← HW0.out])
    go_wp2_with (go_at_call 15; (with_reducible refine HCK.out.mono ?_); rintro e w1 ⟨rfl, b1⟩)
    have hlit := World.ownsRow_lit (base := W0.heap.size) (e := 9) (size := 1) w1 #[] 0 b1.size (by decide) rfl
    have b1' := b1.alloc b1.size (.cells #[] 9)
    go_loopw [3, 4, 12] (fun s3 _ s12 wr => ∃ (k n : Nat) (A' : Option Addr) (cap : Nat), k ≤ l.length ∧ n ≤ k * 2 ∧ s12 = .int .i64 k ∧ s3 = .slice A' n cap ∧ Hid (n = (textsF (l.take k)).length) ∧ wr.ownsRow W0.heap.size 9 1 (.slice A' n cap) n ((textsF (l.take k)).map Tv) ∧ Below W0.heap.size W0 wr) (fun _ _ s12 _ => l.length - (intOf s12).toNat)
    case atStart => exact ⟨0, 0, _, 0, by omega, by omega, rfl, rfl, Lib.hid rfl, hlit, b1'⟩
    case round =>
      clear b1 b1' hlit
      obtain ⟨k, n, A', cap, hk, hnk, rfl, rfl, hn, hown, hB⟩ := hrel
      have hsz := hB.size
      by_cases hlt : k < l.length
      · obtain ⟨a, rfl, hab, hc⟩ := (HF0.out.below hB (Nat.le_refl _)) (by omega)
        obtain ⟨c1, c2⟩ := hc k l[k] (List.getElem?_eq_getElem hlt)
        have hst := HST.out k hlt
        obtain ⟨f, hf⟩ : ∃ f, f = l[k] := ⟨_, rfl⟩
        rw [← hf] at c1 c2 hst
        obtain ⟨xs, hxs⟩ : ∃ xs, xs = textsF (l.take k) := ⟨_, rfl⟩
        rw [← hxs] at hst hn hown
        have HSTP := Lib.hid hst
        have hlt' := hown.lt
        have i1 : (0 : Int) ≤ (k : Int) := by omega
        have i2 : (k : Int) < (l.length : Int) := by omega
        clear hc hf hst hxs
        go_wp2_with fail
        have mixed : Tryd.prog.follows Departure.mixedOrders = true := by kernel_rfl
        go_region_law_o (refine step_append_lies _ rfl (.tmp 15) (.tmp 26) 47 rfl W0.heap.size 9 i0 (.string ⟨#[]⟩) 1 16 Tryd.underlying47 hi hzz hz1 hz2 rfl (by decide) (.slice A' n cap) n _ (by simp [Act.eval]) ((hown.alloc (.cells #[.string f.1, .string f.2] 9)).drew) ⟨wr.heap.size, 0, none⟩ 2 2 [.string f.1, .string f.2] (by simp [Act.eval]) rfl (fun j x hj => news_two wr (.string f.1) (.string f.2) 9 j x hj) (by simp [Value.oneCell']) (by decide) (by unfold maxLen; omega) (by omega) (by simp; omega) _ rfl ?_; intro g2 cap2 w4 hown4 hgrow4 hat4 hg4)
        all_goals try go_wp2
        all_goals go_roundw
        all_goals first
          | exact ⟨k + 1, n + 2, _, _, by omega, by omega, by go_num, rfl, Lib.hid (by rw [HSTP.out, List.length_append, ← hn.out]; rfl), by rw [HSTP.out, List.map_append]; exact hown4, ((hB.alloc hsz (.cells #[.string f.1, .string f.2] 9)).drew).grown hgrow4 (by simp; omega) (fun j e => (hlt' j e).1)⟩
          | (simp [intOf]; omega)
      · have hfin : l.take k = l := List.take_of_length_le (by omega)
        rw [hfin] at hn hown
        have hn2 := hn.out
        have htx : Texts wr wr.heap.size A' (textsF l) := Texts.of_own (base := W0.heap.size) (cap := cap) (by rw [← hn2]; exact hown)
        have hrw := HROW.out A' cap wr htx
        rw [← hn2] at hrw
        have HRW := Lib.hid hrw
        clear hfin hn2 htx hrw hn
        go_wp2_with (first
          | (go_at_call 57; (with_reducible refine HRW.out.mono ?_); rintro e w5 ⟨rfl, b5⟩; have b5' := hB.trans (b5.mono hsz); have z5 := b5'.size)
          | (go_at_call 56; (with_reducible refine (HSUM.out _).mono ?_); rintro e w6 ⟨rfl, b6⟩; have b6' := b5'.trans (b6.mono z5); have hR := HR0.out.below b6' (by omega))
          | (with_reducible refine wpList_store_row rfl 39 (.tmp 2) (.tmp 31) rfl w.heap.size D rfl rfl 39 (zb 32) hR.heap HDI.out HDZ.out HD1.out ?_))
        exact bodyPost_ret (results_cell_row rfl _ _ w.heap.size 39 D (0, 0) _ rfl (setRow_heap _ _ _ _ _ _ hR) Tryd.underlying39 rfl HDI.out) rfl ⟨rfl, below_setRow (hB0.trans (b6'.mono (by omega))) (Nat.le_refl _) _⟩
  · rw [if_neg hC0] at hsv
    have q1 : (C != 0) = true := bne_iff_ne.2 hC0
    injection hsv with hsv
    subst hsv
    clear hC0 hC HROW
    go_enter Tryd.func24, Tryd.ntmps24
    go_wp2_with (with_reducible refine wpList_allocR rfl 39 rfl (zb 32) (zero39 _) ?_; rw [← HW0.out])
    go_wp2_with (first
      | (go_at_call 15; (with_reducible refine HCK.out.mono ?_); rintro e w1 ⟨rfl, b1⟩; have hR := HR0.out.below b1 (by omega))
      | (with_reducible refine wpList_buildR rfl 39 _ rfl (zb 32) empty27 ?_)
      | (with_reducible refine wpList_store_row rfl 39 (.tmp 2) (.tmp 8) rfl w.heap.size (zb 32) rfl rfl 39 (zb 32) hR.heap HDI.out rfl one_zb ?_))
    exact bodyPost_ret (results_cell_row rfl _ _ w.heap.size 39 (zb 32) (0, 0) _ rfl (setRow_heap _ _ _ _ _ _ hR) Tryd.underlying39 rfl HDI.out) rfl ⟨rfl, below_setRow (hB0.trans (b1.mono (by omega))) (Nat.le_refl _) _⟩
end Go.Proofs.YtjpaajpjajoijaaDoor
