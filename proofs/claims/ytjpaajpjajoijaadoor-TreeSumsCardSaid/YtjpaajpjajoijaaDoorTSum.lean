/- tree.Sum, bloomeryref05.Sum. -/
import Derived.Test.YtjpaajpjajoijaaDoorPRow
import Derived.Test.YtjpaajpjajoijaaDoorRCheck
import Derived.Test.YtjpaajpjajoijaaDoorWith
namespace Go.Proofs.YtjpaajpjajoijaaDoor
set_option linter.unusedVariables false
open Go.RowKit Sha
/-- The texts of files: each one's path and bytes. -/
def textsF (l : List FileB) : List ByteArray := l.flatMap fun f => [f.1, f.2]
theorem textsF_succ (l : List FileB) (k : Nat) (h : k < l.length) : textsF (l.take (k + 1)) = textsF (l.take k) ++ [(l[k]'h).1, (l[k]'h).2] := by
  unfold textsF
  rw [List.take_succ_eq_append_getElem h, List.flatMap_append]
  simp
theorem textsF_len (l : List FileB) : (textsF l).length = l.length * 2 := by
  induction l with
  | nil => rfl
  | cons f l ih => rw [show textsF (f :: l) = f.1 :: f.2 :: textsF l from rfl, List.length_cons, List.length_cons, ih, List.length_cons]; omega
theorem textsF_small {l : List FileB} (h : ∀ f ∈ l, f.1.size ≤ 300 ∧ f.2.size ≤ 300) : ∀ s ∈ textsF l, s.size ≤ 300 := by
  intro s hs
  unfold textsF at hs
  rw [List.mem_flatMap] at hs
  obtain ⟨f, hf, hs⟩ := hs
  rcases List.mem_cons.1 hs with rfl | hs
  · exact (h f hf).1
  · rw [List.mem_singleton.1 hs]
    exact (h f hf).2
/-- The digest of files. -/
def sumV (l : List FileB) : Value := if checkL l = 0 then D8 (rowT (textsF l)).data.toList else .agg (zb 32)
theorem joinB_one (s : ByteArray) : joinB [s] = s.data.toList := by simp [joinB]
theorem sumV_shape (l : List FileB) : ∃ D : Array Value, sumV l = .agg D ∧ (zb 32).size = D.size ∧ D.all (·.oneCell') = true ∧ (Tryd.prog.info? 39).map (·.size) = some D.size := by
  unfold sumV
  split
  · obtain ⟨D, h1, h2, h3, h4⟩ := D8_shape (rowT (textsF l)).data.toList
    exact ⟨D, h1, by rw [h2]; rfl, h3, h4⟩
  · exact ⟨_, rfl, rfl, one_zb, info27z⟩
theorem one_textD (w : World) (s : ByteArray) : Strs (w.alloc (.cells #[.string s] 9)) (w.alloc (.cells #[.string s] 9)).heap.size (some ⟨w.heap.size, 0, none⟩) [s] := fun _ => ⟨_, rfl, by simp, fun j u hj => by
  have hj0 : j = 0 := by
    have := (List.getElem?_eq_some_iff.1 hj).1
    simpa using this
  subst hj0
  cases hj
  exact (Blk.new w 9 #[.string s]).cell 0⟩
set_option maxHeartbeats 4000000 in
set_option maxRecDepth 100000 in
theorem tsum_any (l : List FileB) (A : Option Addr) (c : Nat) (w : World) (hF : Files w w.heap.size A l) (hs : Small l) (hl : l.length ≤ 100) (hp : Pow10 w) :
    Calls Tryd.prog 23 #[.slice A l.length c] w fun e w' => e = .returned (sumV l) ∧ Below w.heap.size w w' := by
  obtain ⟨W0, hW0⟩ : ∃ W0, W0 = w.alloc (.cells (zb 32) 39) := ⟨_, rfl⟩
  have hB0 : Below w.heap.size w W0 := by rw [hW0]; exact (Below.refl _ _).alloc (Nat.le_refl _) _
  have hR0 : Blk W0 w.heap.size 39 (zb 32) := by rw [hW0]; exact Blk.new w 39 (zb 32)
  have hz0 : W0.heap.size = w.heap.size + 1 := by rw [hW0, World.size_alloc]
  have hF0 : Files W0 W0.heap.size A l := (hF.below hB0 (Nat.le_refl _)).more (by omega)
  have hck := tcheck_any l A c W0 hF0 hs
  have hsv : sumV l = if checkL l = 0 then D8 (rowT (textsF l)).data.toList else .agg (zb 32) := rfl
  have hrs := rowT_size (textsF l) (textsF_small hs.2)
  have htl := textsF_len l
  have hrow := fun A' c' w' h hp' => prow_any (textsF l) A' c' w' h (by omega) (textsF_small hs.2) hp'
  have hst := fun k h => textsF_succ l k h
  obtain ⟨D, hD, hDz, hD1, hDi⟩ := sumV_shape l
  have hdl := fun f hf => hs.2 f hf
  obtain ⟨C, hC⟩ : ∃ C, C = checkL l := ⟨_, rfl⟩
  rw [← hC] at hck hsv
  rw [hD] at hsv ⊢
  obtain ⟨i0, hi, hzz, hz1, hz2⟩ := info_parts info9p
  have HCK := Lib.hid hck
  have HROW := Lib.hid hrow
  have HST := Lib.hid hst
  have HF0 := Lib.hid hF0
  have HW0 := Lib.hid hW0
  have HR0 := Lib.hid hR0
  have HPW := Lib.hid (hp.below hB0)
  have HDZ := Lib.hid hDz
  have HD1 := Lib.hid hD1
  have HDI := Lib.hid hDi
  have HTL := Lib.hid htl
  have hz0' : w.heap.size + 1 ≤ W0.heap.size := by omega
  have hrl : (rowT (textsF l)).size ≤ 602000 := by
    have h5 := hrs (textsF l).length (Nat.le_refl _)
    rw [List.take_length] at h5
    omega
  clear hck hrow hst hF0 hW0 hR0 hDz hD1 hDi hF hrs hp hz0 htl hD
  by_cases hC0 : C = 0
  · rw [if_pos hC0] at hsv
    subst hC0
    have hsum : ∀ A' c' w', Strs w' w'.heap.size A' [rowT (textsF l)] → Calls Tryd.prog 54 #[.slice A' 1 c'] w' fun e w'' => e = .returned (.agg D) ∧ Below w'.heap.size w' w'' := fun A' c' w' h => by
      have h5 := sum_parts [rowT (textsF l)] A' c' w' h (by simp) (by rw [joinB_one]; show (rowT (textsF l)).size ≤ _; omega)
      rw [joinB_one, ← hsv] at h5
      exact h5
    have HSUM := Lib.hid hsum
    clear hsum hsv hC
    obtain ⟨RT, hRT⟩ : ∃ RT, RT = rowT (textsF l) := ⟨_, rfl⟩
    rw [← hRT] at HROW HSUM
    clear hRT hrl
    go_enter Tryd.func23, Tryd.ntmps23
    go_wp2_with (with_reducible refine wpList_allocR rfl 39 rfl (zb 32) (zero39 _) ?_; rw [← HW0.out])
    go_wp2_with (go_at_call 25; (with_reducible refine HCK.out.mono ?_); rintro e w1 ⟨rfl, b1⟩)
    go_loopw [3, 5, 12] (fun s3 _ s12 wr => ∃ (k n : Nat) (A' : Option Addr) (cap : Nat), k ≤ l.length ∧ n ≤ k * 2 ∧ s12 = .int .i64 k ∧ s3 = .slice A' n cap ∧ Hid (n = (textsF (l.take k)).length) ∧ wr.ownsRow W0.heap.size 9 1 (.slice A' n cap) n ((textsF (l.take k)).map Tv) ∧ Below W0.heap.size W0 wr) (fun _ _ s12 _ => l.length - (intOf s12).toNat)
    case atStart => exact ⟨0, 0, none, 0, by omega, by omega, rfl, rfl, Lib.hid rfl, World.ownsRow_nil _ _ _ _, b1⟩
    case round =>
      clear b1
      obtain ⟨k, n, A', cap, hk, hnk, rfl, rfl, hn, hown, hB⟩ := hrel
      have hsz := hB.size
      by_cases hlt : k < l.length
      · obtain ⟨a, rfl, hab, hc⟩ := (HF0.out.below hB (Nat.le_refl _)) (by omega)
        obtain ⟨c1, c2⟩ := hc k l[k] (List.getElem?_eq_getElem hlt)
        have hst := HST.out k hlt
        obtain ⟨f, hf⟩ : ∃ f, f = l[k] := ⟨_, rfl⟩
        rw [← hf] at c1 c2 hst
        obtain ⟨xs, hxs⟩ : ∃ xs, xs = textsF (l.take k) := ⟨_, rfl⟩
        rw [← hxs] at hst hn hown
        have HSTP := Lib.hid hst
        have hlt' := hown.lt
        have i1 : (0 : Int) ≤ (k : Int) := by omega
        have i2 : (k : Int) < (l.length : Int) := by omega
        clear hc hf hst hxs
        go_wp2_with (at_builtin; refine wpList_append_lies _ rfl (.tmp 16) (.tmp 21) 47 rfl W0.heap.size 9 i0 (.string ⟨#[]⟩) 1 16 Tryd.underlying47 hi hzz hz1 hz2 rfl (by decide) (.slice A' n cap) n _ rfl ((hown.alloc _).alloc _) ⟨wr.heap.size + 1, 0, none⟩ 2 2 [.string f.1, .string f.2] rfl rfl (by have h5 := news_two (wr.alloc (.cells #[.string f.1, .string f.2] 36)) (.string f.1) (.string f.2) 9; rw [World.size_alloc] at h5; exact h5) (by simp [Value.oneCell']) (by decide) (by unfold maxLen; omega) (by omega) (by simp; omega) _ rfl ?_; intro g2 cap2 w4 hown4 hgrow4 hat4 hg4)
        go_roundw
        case rel => exact ⟨k + 1, n + 2, _, _, by omega, by omega, by go_num, rfl, Lib.hid (by rw [HSTP.out, List.length_append, ← hn.out]; rfl), by rw [HSTP.out, List.map_append]; exact hown4, ((hB.alloc hsz _).alloc (by simp; omega) _).grown hgrow4 (by simp; omega) (fun j e => (hlt' j e).1)⟩
        case measure => simp [intOf]; omega
      · have hfin : l.take k = l := List.take_of_length_le (by omega)
        rw [hfin] at hn hown
        have hn2 := hn.out
        have htx : Texts wr wr.heap.size A' (textsF l) := Texts.of_own (base := W0.heap.size) (cap := cap) (by rw [← hn2]; exact hown)
        have hrw := HROW.out A' cap wr htx (HPW.out.below hB)
        rw [← hn2] at hrw
        have HRW := Lib.hid hrw
        clear hfin hn2 htx hrw hn
        go_wp2_with (first
          | (go_at_call 55; (with_reducible refine HRW.out.mono ?_); rintro e w5 ⟨rfl, b5⟩; have b5' := hB.trans (b5.mono hsz); have z5 := b5'.size; have hst5 : Strs (w5.alloc (.cells #[.string RT] 9)) (w5.alloc (.cells #[.string RT] 9)).heap.size (some ⟨w5.heap.size, 0, none⟩) [RT] := one_textD w5 RT)
          | (go_at_call 54; (with_reducible refine (HSUM.out _ _ _ hst5).mono ?_); rintro e w6 ⟨rfl, b6⟩; have b6' := (b5'.alloc z5 (.cells #[.string RT] 9)).trans (b6.mono (by simp; omega)); have hR := HR0.out.below b6' (by omega))
          | (with_reducible refine wpList_store_row rfl 39 (.tmp 2) (.tmp 27) rfl w.heap.size D rfl rfl 39 (zb 32) hR.heap HDI.out HDZ.out HD1.out ?_))
        exact bodyPost_ret (results_cell_row rfl _ _ w.heap.size 39 D (0, 0) _ rfl (setRow_heap _ _ _ _ _ _ hR) Tryd.underlying39 rfl HDI.out) rfl ⟨rfl, below_setRow (hB0.trans (b6'.mono (by omega))) (Nat.le_refl _) _⟩
  · rw [if_neg hC0] at hsv
    have q1 : (C != 0) = true := bne_iff_ne.2 hC0
    injection hsv with hsv
    subst hsv
    clear hC0 hC HROW
    go_enter Tryd.func23, Tryd.ntmps23
    go_wp2_with (with_reducible refine wpList_allocR rfl 39 rfl (zb 32) (zero39 _) ?_; rw [← HW0.out])
    go_wp2_with (first
      | (go_at_call 25; (with_reducible refine HCK.out.mono ?_); rintro e w1 ⟨rfl, b1⟩; have hR := HR0.out.below b1 (by omega))
      | (with_reducible refine wpList_buildR rfl 39 _ rfl (zb 32) empty27 ?_)
      | (with_reducible refine wpList_store_row rfl 39 (.tmp 2) (.tmp 9) rfl w.heap.size (zb 32) rfl rfl 39 (zb 32) hR.heap HDI.out rfl one_zb ?_))
    exact bodyPost_ret (results_cell_row rfl _ _ w.heap.size 39 (zb 32) (0, 0) _ rfl (setRow_heap _ _ _ _ _ _ hR) Tryd.underlying39 rfl HDI.out) rfl ⟨rfl, below_setRow (hB0.trans (b1.mono (by omega))) (Nat.le_refl _) _⟩
end Go.Proofs.YtjpaajpjajoijaaDoor
