/- The law ShaCuts, walked. -/
import Derived.Test.YtjpaajpjajoijaaQ
import Derived.Deep.RegionHeld3
namespace Go.Proofs.Ytjpaajpjajoijaa
set_option linter.unusedSimpArgs false
open Go.RowKit Sha
/-- The digest behind a text, as a value. -/
theorem sum_dg (m : List UInt8) (B g : Nat) (w : World) (h : HashAt w B g m) (hl : m.length ≤ 140737488355328) :
    Calls Try.prog 13 #[.pointer (some ⟨g, 0, none⟩)] w fun e w' => e = .returned (.agg (Dg (digB m))) ∧ Below w.heap.size w w' := by
  rw [← D8_Dg]; exact sum_hash m B g w h hl
theorem rsum_dg (s : ByteArray) (m : List UInt8) (hm : s.data.toList = m) (w : World) (hl : s.size ≤ 140737488355000) :
    Calls Try.prog 11 #[.string s] w fun e w' => e = .returned (.agg (Dg (digB m))) ∧ Below w.heap.size w w' := by
  rw [← D8_Dg, ← hm]; exact rsum_any s w hl
theorem one_text_at' {w : World} {s : ByteArray} {g : Nat} (h : w.cell? ⟨g, 0, none⟩ = some (.string s)) : Strs w w.heap.size (some ⟨g, 0, none⟩) [s] := fun _ => ⟨_, rfl, World.block_lt_of_cell? _ _ h, fun j u hj => by
  match j, hj with
  | 0, hj =>
    simp at hj
    subst hj
    exact h⟩
theorem joinB_one (o : ByteArray) : joinB [o] = o.data.toList := by simp [joinB]
set_option maxHeartbeats 1000000 in
set_option maxRecDepth 100000 in
theorem shaCuts_any (l : List ByteArray) (A : Option Addr) (c : Nat) (w : World) (hS : Strs w w.heap.size A l) (hn : l.length ≤ 140737488355328) (hs : ∀ s ∈ l, s.size ≤ maxLen) :
    Calls Try.prog 4 #[.slice A l.length c] w fun e w' => e = .returned (.bool true) ∧ Below w.heap.size w w' := by
  have hj := joined_any l A c w hS hn hs
  go_enter Try.func4, Try.ntmps4
  go_wp2_with (go_at_call 8; refine hj.mono ?_)
  rintro e w1 ⟨rfl, o, b, rfl, hb⟩
  cases b with
  | false =>
    go_wp2_with (go_at_call 9; refine (fixed_any _).mono ?_; rintro e w2 ⟨rfl, b2⟩)
    go_ret
    exact ⟨rfl, b2⟩
  | true =>
    obtain ⟨ho, hoz⟩ := hb rfl
    have h0 : ∀ w, Calls Try.prog 11 #[.string ⟨#[]⟩] w fun e w' => e = .returned (.agg (Dg (digB []))) ∧ Below w.heap.size w w' := fun w => rsum_dg ⟨#[]⟩ [] rfl w (by decide)
    have h1 : ∀ (B g : Nat) (w : World), HashAt w B g [] → Calls Try.prog 13 #[.pointer (some ⟨g, 0, none⟩)] w fun e w' => e = .returned (.agg (Dg (digB []))) ∧ Below w.heap.size w w' := fun B g w h => sum_dg [] B g w h (by simp)
    obtain ⟨d0, hd0⟩ : ∃ d, d = digB [] := ⟨_, rfl⟩
    have hl0 : d0.length = 32 := by rw [hd0]; exact digB_length _
    rw [← hd0] at h0 h1
    have HE0 := Lib.hid (eq27 d0 hl0)
    have H0 := Lib.hid h0
    have H1 := Lib.hid h1
    have HO := Lib.hid ho
    have HSS := Lib.hid hS
    clear hd0 hl0 hb hj h0 h1 ho hS
    go_wp2_with (first
      | (go_at_call 12; refine (new_hash _).mono ?_; rintro e w2 ⟨rfl, hH, b2⟩)
      | (go_at_call 13; refine (H1.out _ _ _ hH).mono ?_; rintro e w3 ⟨rfl, b3⟩)
      | (go_at_call 11; refine (H0.out _).mono ?_; rintro e w4 ⟨rfl, b4⟩; have he := HE0.out w4))
    have hB : Below w1.heap.size w1 w4 := (b2.trans (b3.mono b2.size)).trans (b4.mono (Nat.le_trans b2.size b3.size))
    have hH4 := (hH.below b3 (Nat.le_refl _)).below b4 (Nat.le_refl _)
    clear he b2 b3 b4 hH H1 H0 HE0
    go_loopw [6, 7] (fun v6 v7 wr => ∃ k : Nat, k ≤ l.length ∧ v7 = .int .i64 k ∧ v6 = .int .i64 ((joinB (l.take k)).length : Nat) ∧ HashAt wr w1.heap.size (w1.heap.size + 1) (joinB (l.take k)) ∧ Below w1.heap.size w1 wr) (fun _ v7 _ => l.length - (intOf v7).toNat)
    case atStart => exact ⟨0, by omega, rfl, rfl, hH4, hB⟩
    case round =>
      clear hH4 hB
      obtain ⟨k, hk, rfl, rfl, hH, hB⟩ := hrel
      by_cases hlt : k < l.length
      · obtain ⟨a, rfl, hab, hcell⟩ := (HSS.out.below hB (Nat.le_refl _)) (by omega)
        have hc := hcell k l[k] (List.getElem?_eq_getElem hlt)
        have hjt := joinB_take l k hlt
        have hjl := joinB_le l (k + 1)
        have hjo : (joinB l).length ≤ 300 := by rw [← HO.out]; exact hoz
        obtain ⟨s, hs⟩ : ∃ s, s = l[k] := ⟨_, rfl⟩
        rw [← hs] at hc hjt
        have hlen : (joinB (l.take (k + 1))).length = (joinB (l.take k)).length + s.size := by rw [hjt, List.length_append]; rfl
        have hss : s.size ≤ 300 := by omega
        have HJT := Lib.hid hjt
        have HJL := Lib.hid (Nat.le_trans hjl hjo)
        have HLN := Lib.hid hlen
        obtain ⟨n, hn⟩ : ∃ n, n = (joinB (l.take k)).length := ⟨_, rfl⟩
        rw [← hn]
        have hnl : n ≤ 300 := by have := joinB_le l k; omega
        have HN := Lib.hid hn
        have HAD : Hid ((joinB (l.take k)).length + s.data.toList.length ≤ 140737488355328) := Lib.hid (by have h5 : s.data.toList.length = s.size := rfl; rw [h5]; omega)
        clear hs hjt hjl hlen hn hjo hcell
        have hsum : n + s.size ≤ 300 := by have h1 := HLN.out; have h2 := HJL.out; have h3 := HN.out; omega
        have hab2 : a.block < w1.heap.size := hab
        go_wp2_with (first | (go_at_call 14; refine (add_hash _ s _ _ _ hH HAD.out).mono ?_; rintro e w2 ⟨rfl, hH2, b2⟩; have hc2 := (b2.cell (p := a.add k) (by rw [show (a.add k).block = a.block from by unfold Addr.add; split <;> rfl]; exact hab2)).trans hc))
        have hB2 : Below w1.heap.size w1 w2 := hB.trans b2
        have ho2 : n + s.size ≤ o.size := by
          have h1 := HLN.out
          have h2 := HN.out
          have h3 := joinB_le l (k + 1)
          have h4 : o.size = (joinB l).length := by rw [← HO.out]; rfl
          omega
        have hext : (o.extract 0 (n + s.size)).data.toList = joinB (l.take (k + 1)) := by
          have h1 := HLN.out
          have h2 := HN.out
          have h3 : joinB l = joinB (l.take (k + 1)) ++ joinB (l.drop (k + 1)) := by
            unfold joinB
            rw [← List.flatten_append, ← List.map_append, List.take_append_drop]
          rw [ByteArray.data_extract]
          simp only [Array.toList_extract]
          rw [HO.out, h3, show n + s.size = (joinB (l.take (k + 1))).length from by omega]
          simp
        have hexs : (o.extract 0 (n + s.size)).size ≤ 140737488355000 := by
          have : (o.extract 0 (n + s.size)).size = (o.extract 0 (n + s.size)).data.toList.length := rfl
          rw [this, hext]
          have := HJL.out
          omega
        have hH3 : HashAt w2 w1.heap.size (w1.heap.size + 1) (joinB (l.take (k + 1))) := by rw [HJT.out]; exact hH2
        obtain ⟨T, hT⟩ : ∃ T, T = o.extract 0 (n + s.size) := ⟨_, rfl⟩
        rw [← hT] at hext hexs
        have h13 : ∀ w, HashAt w w1.heap.size (w1.heap.size + 1) (joinB (l.take (k + 1))) → Calls Try.prog 13 #[.pointer (some ⟨w1.heap.size + 1, 0, none⟩)] w fun e w' => e = .returned (.agg (Dg (digB (joinB (l.take (k + 1)))))) ∧ Below w.heap.size w w' := fun w h => sum_dg _ _ _ w h (by have := HJL.out; omega)
        have h11 := fun w => rsum_dg T _ hext w hexs
        obtain ⟨d, hd⟩ : ∃ d, d = digB (joinB (l.take (k + 1))) := ⟨_, rfl⟩
        have hdl : d.length = 32 := by rw [hd]; exact digB_length _
        rw [← hd] at h13 h11
        have HE := Lib.hid (eq27 d hdl)
        have H13 := Lib.hid h13
        have H11 := Lib.hid h11
        have HT := Lib.hid hT.symm
        clear hc hH b2 hB hext hexs hT hd hdl h13 h11 hH2
        by_cases hk3 : k % 3 = 0
        · have q3 : ((k : Int).tmod 3 == 0) = true := by rw [Int.tmod_eq_emod_of_nonneg (by omega)]; simp; omega
          have q4 : (0 : Int) ≤ (n : Int) + (s.size : Int) := by omega
          have q5 : (n : Int) + (s.size : Int) ≤ (o.size : Int) := by omega
          have q6 : ((n : Int) + (s.size : Int)).toNat = n + s.size := by omega
          refine wp_region_held_drew (S := fun w' => Below w2.heap.size w2 w') (by kernel_rfl) ((Below.refl _ _).drew) (fun hS0 => ?_)
          refine wpAnyH_take (i := 0) (v := .int .i64 (k : Int)) rfl (by kernel_rfl) (by kernel_rfl) (by kernel_rfl) (fun _ _ _ h => h) (Or.inl ⟨by rfl, fun w' _ => by go_simp⟩) hS0 ?_
          simp only [Act.put, List.setIfInBounds_toArray, List.set_cons_zero, List.set_cons_succ, List.getElem_toArray, List.getElem_cons_succ, List.getElem_cons_zero]
          refine wpAnyH_take (i := 1) (v := .int .i64 ((k : Int).tmod 3)) rfl (by kernel_rfl) (by kernel_rfl) (by kernel_rfl) (fun _ _ _ h => h) (Or.inl ⟨by rfl, fun w' _ => by go_simp⟩) hS0 ?_
          simp only [Act.put, List.setIfInBounds_toArray, List.set_cons_zero, List.set_cons_succ, List.getElem_toArray, List.getElem_cons_succ, List.getElem_cons_zero]
          refine wpAnyH_take (i := 2) (v := .bool true) rfl (by kernel_rfl) (by kernel_rfl) (by kernel_rfl) (fun _ _ _ h => h) (Or.inl ⟨by rfl, fun w' _ => by go_simp⟩) hS0 ?_
          simp only [Act.put, List.setIfInBounds_toArray, List.set_cons_zero, List.set_cons_succ, List.getElem_toArray, List.getElem_cons_succ, List.getElem_cons_zero]
          refine wpAnyH_take (i := 3) (v := .bool true) rfl (by kernel_rfl) (by kernel_rfl) (by kernel_rfl) (fun _ _ _ h => h) (Or.inl ⟨by rfl, fun w' _ => by go_simp⟩) hS0 ?_
          simp only [Act.put, List.setIfInBounds_toArray, List.set_cons_zero, List.set_cons_succ, List.getElem_toArray, List.getElem_cons_succ, List.getElem_cons_zero]
          refine wpAnyH_take (i := 4) (v := .pointer (some ⟨w1.heap.size + 1, 0, none⟩)) rfl (by kernel_rfl) (by kernel_rfl) (by kernel_rfl) (fun _ _ _ h => h) (Or.inl ⟨by rfl, fun w' _ => by go_simp⟩) hS0 ?_
          simp only [Act.put, List.setIfInBounds_toArray, List.set_cons_zero, List.set_cons_succ, List.getElem_toArray, List.getElem_cons_succ, List.getElem_cons_zero]
          refine wpAnyH_take (i := 6) (v := .string o) rfl (by kernel_rfl) (by kernel_rfl) (by kernel_rfl) (fun _ _ _ h => h) (Or.inl ⟨by rfl, fun w' _ => by go_simp⟩) hS0 ?_
          simp only [Act.put, List.setIfInBounds_toArray, List.set_cons_zero, List.set_cons_succ, List.getElem_toArray, List.getElem_cons_succ, List.getElem_cons_zero]
          refine wpAnyH_take (i := 7) (v := .int .i64 ((n : Int) + (s.size : Int))) rfl (by kernel_rfl) (by kernel_rfl) (by kernel_rfl) (fun _ _ _ h => h) (Or.inl ⟨by rfl, fun w' _ => by go_simp⟩) hS0 ?_
          simp only [Act.put, List.setIfInBounds_toArray, List.set_cons_zero, List.set_cons_succ, List.getElem_toArray, List.getElem_cons_succ, List.getElem_cons_zero]
          refine wpAnyH_take (i := 8) (v := .string T) rfl (by kernel_rfl) (by kernel_rfl) (by kernel_rfl) (fun _ _ _ h => h) (Or.inl ⟨by rfl, fun w' _ => by have := HT.out; go_simp⟩) hS0 ?_
          simp only [Act.put, List.setIfInBounds_toArray, List.set_cons_zero, List.set_cons_succ, List.getElem_toArray, List.getElem_cons_succ, List.getElem_cons_zero]
          refine wpAnyH_ready (rs := [5]) (by kernel_rfl) (by simp) (AllReadyH.cons (i := 5) rfl (fun K hK => ?_) AllReadyH.nil)
          rw [if_pos (by rfl)]
          simp only [Act.put, List.setIfInBounds_toArray, List.set_cons_zero, List.set_cons_succ, List.getElem_toArray, List.getElem_cons_succ, List.getElem_cons_zero]
          go_wp2_with (go_at_call 13; refine (H13.out w2.drew hH3).mono ?_; rintro e w3 ⟨rfl, b3⟩)
          have hS3 : Below w2.heap.size w2 w3 := hS0.trans b3
          refine hK.out _ _ hS3 (fun hS3' => ?_)
          clear hK K
          refine wpAnyH_ready (rs := [9]) (by kernel_rfl) (by simp) (AllReadyH.cons (i := 9) rfl (fun K hK => ?_) AllReadyH.nil)
          rw [if_pos (by rfl)]
          simp only [Act.put, List.setIfInBounds_toArray, List.set_cons_zero, List.set_cons_succ, List.getElem_toArray, List.getElem_cons_succ, List.getElem_cons_zero]
          go_wp2_with (go_at_call 11; refine (H11.out _).mono ?_; rintro e w4 ⟨rfl, b4⟩)
          have hS4 : Below w2.heap.size w2 w4 := hS3.trans (b4.mono hS3.size)
          refine hK.out _ _ hS4 (fun hS4' => ?_)
          clear hK K
          refine wpAnyH_ready (rs := [10]) (by kernel_rfl) (by simp) (AllReadyH.cons (i := 10) rfl (fun K hK => ?_) AllReadyH.nil)
          rw [if_pos (by rfl)]
          simp only [Act.put, List.setIfInBounds_toArray, List.set_cons_zero, List.set_cons_succ, List.getElem_toArray, List.getElem_cons_succ, List.getElem_cons_zero]
          have he := HE.out w4
          go_wp2
          refine hK.out _ _ hS4 (fun hS4' => ?_)
          clear hK K he
          refine wpAnyH_ready (rs := [11]) (by kernel_rfl) (by simp) (AllReadyH.cons (i := 11) rfl (fun K hK => ?_) AllReadyH.nil)
          rw [if_pos (by rfl)]
          simp only [Act.put, List.setIfInBounds_toArray, List.set_cons_zero, List.set_cons_succ, List.getElem_toArray, List.getElem_cons_succ, List.getElem_cons_zero]
          go_wp2
          refine hK.out _ _ hS4 (fun hS4' => ?_)
          clear hK K
          refine wpAnyH_done (by kernel_rfl) ?_ _
          go_wp2
          go_roundw
          case rel =>
            refine ⟨k + 1, by omega, by go_num, ?_, ?_, ?_⟩
            · have h1 := HLN.out
              have h2 := HN.out
              rw [h1, ← h2]
              go_num
            · exact (hH3.below hS4 (Nat.le_refl _))
            · exact hB2.trans (hS4.mono hB2.size)
          case measure => simp [intOf]; omega
        · have q3 : ((k : Int).tmod 3 == 0) = false := by rw [Int.tmod_eq_emod_of_nonneg (by omega)]; simp; omega
          refine wp_region_held_drew (S := fun w' => w' = w2.drew) (by kernel_rfl) rfl (fun hS0 => ?_)
          refine wpAnyH_take (i := 0) (v := .int .i64 (k : Int)) rfl (by kernel_rfl) (by kernel_rfl) (by kernel_rfl) (fun _ _ _ h => h) (Or.inl ⟨by rfl, fun w' _ => by go_simp⟩) hS0 ?_
          simp only [Act.put, List.setIfInBounds_toArray, List.set_cons_zero, List.set_cons_succ, List.getElem_toArray, List.getElem_cons_succ, List.getElem_cons_zero]
          refine wpAnyH_take (i := 1) (v := .int .i64 ((k : Int).tmod 3)) rfl (by kernel_rfl) (by kernel_rfl) (by kernel_rfl) (fun _ _ _ h => h) (Or.inl ⟨by rfl, fun w' _ => by go_simp⟩) hS0 ?_
          simp only [Act.put, List.setIfInBounds_toArray, List.set_cons_zero, List.set_cons_succ, List.getElem_toArray, List.getElem_cons_succ, List.getElem_cons_zero]
          refine wpAnyH_take (i := 2) (v := .bool false) rfl (by kernel_rfl) (by kernel_rfl) (by kernel_rfl) (fun _ _ _ h => h) (Or.inl ⟨by rfl, fun w' _ => by go_simp⟩) hS0 ?_
          simp only [Act.put, List.setIfInBounds_toArray, List.set_cons_zero, List.set_cons_succ, List.getElem_toArray, List.getElem_cons_succ, List.getElem_cons_zero]
          refine wpAnyH_take (i := 3) (v := .bool false) rfl (by kernel_rfl) (by kernel_rfl) (by kernel_rfl) (fun _ _ _ h => h) (Or.inl ⟨by rfl, fun w' _ => by go_simp⟩) hS0 ?_
          simp only [Act.put, List.setIfInBounds_toArray, List.set_cons_zero, List.set_cons_succ, List.getElem_toArray, List.getElem_cons_succ, List.getElem_cons_zero]
          refine wpAnyH_take (i := 4) (v := undef) rfl (by kernel_rfl) (by kernel_rfl) (by kernel_rfl) (fun _ _ _ h => h) (Or.inr ⟨by rfl, rfl⟩) hS0 ?_
          simp only [Act.put, List.setIfInBounds_toArray, List.set_cons_zero, List.set_cons_succ, List.getElem_toArray, List.getElem_cons_succ, List.getElem_cons_zero]
          refine wpAnyH_take (i := 5) (v := undef) rfl (by kernel_rfl) (by kernel_rfl) (by kernel_rfl) (fun _ _ _ h => h) (Or.inr ⟨by rfl, rfl⟩) hS0 ?_
          simp only [Act.put, List.setIfInBounds_toArray, List.set_cons_zero, List.set_cons_succ, List.getElem_toArray, List.getElem_cons_succ, List.getElem_cons_zero]
          refine wpAnyH_take (i := 6) (v := undef) rfl (by kernel_rfl) (by kernel_rfl) (by kernel_rfl) (fun _ _ _ h => h) (Or.inr ⟨by rfl, rfl⟩) hS0 ?_
          simp only [Act.put, List.setIfInBounds_toArray, List.set_cons_zero, List.set_cons_succ, List.getElem_toArray, List.getElem_cons_succ, List.getElem_cons_zero]
          refine wpAnyH_take (i := 7) (v := undef) rfl (by kernel_rfl) (by kernel_rfl) (by kernel_rfl) (fun _ _ _ h => h) (Or.inr ⟨by rfl, rfl⟩) hS0 ?_
          simp only [Act.put, List.setIfInBounds_toArray, List.set_cons_zero, List.set_cons_succ, List.getElem_toArray, List.getElem_cons_succ, List.getElem_cons_zero]
          refine wpAnyH_take (i := 8) (v := undef) rfl (by kernel_rfl) (by kernel_rfl) (by kernel_rfl) (fun _ _ _ h => h) (Or.inr ⟨by rfl, rfl⟩) hS0 ?_
          simp only [Act.put, List.setIfInBounds_toArray, List.set_cons_zero, List.set_cons_succ, List.getElem_toArray, List.getElem_cons_succ, List.getElem_cons_zero]
          refine wpAnyH_take (i := 9) (v := undef) rfl (by kernel_rfl) (by kernel_rfl) (by kernel_rfl) (fun _ _ _ h => h) (Or.inr ⟨by rfl, rfl⟩) hS0 ?_
          simp only [Act.put, List.setIfInBounds_toArray, List.set_cons_zero, List.set_cons_succ, List.getElem_toArray, List.getElem_cons_succ, List.getElem_cons_zero]
          refine wpAnyH_take (i := 10) (v := undef) rfl (by kernel_rfl) (by kernel_rfl) (by kernel_rfl) (fun _ _ _ h => h) (Or.inr ⟨by rfl, rfl⟩) hS0 ?_
          simp only [Act.put, List.setIfInBounds_toArray, List.set_cons_zero, List.set_cons_succ, List.getElem_toArray, List.getElem_cons_succ, List.getElem_cons_zero]
          refine wpAnyH_take (i := 11) (v := .bool false) rfl (by kernel_rfl) (by kernel_rfl) (by kernel_rfl) (fun _ _ _ h => h) (Or.inl ⟨by rfl, fun w' _ => by go_simp⟩) hS0 ?_
          simp only [Act.put, List.setIfInBounds_toArray, List.set_cons_zero, List.set_cons_succ, List.getElem_toArray, List.getElem_cons_succ, List.getElem_cons_zero]
          refine wpAnyH_done (by kernel_rfl) ?_ _
          go_wp2
          go_roundw
          case rel =>
            refine ⟨k + 1, by omega, by go_num, ?_, ?_, ?_⟩
            · have h1 := HLN.out
              have h2 := HN.out
              rw [h1, ← h2]
              go_num
            · exact hH3
            · exact hB2.drew
          case measure => simp [intOf]; omega
      · have hfin : l.take k = l := List.take_of_length_le (by omega)
        rw [hfin] at hH ⊢
        have hjo : (joinB l).length ≤ 300 := by rw [← HO.out]; exact hoz
        have h13 : ∀ w, HashAt w w1.heap.size (w1.heap.size + 1) (joinB l) → Calls Try.prog 13 #[.pointer (some ⟨w1.heap.size + 1, 0, none⟩)] w fun e w' => e = .returned (.agg (Dg (digB (joinB l)))) ∧ Below w.heap.size w w' := fun w h => sum_dg _ _ _ w h (by omega)
        have h11 := fun w => rsum_dg o _ HO.out w (by omega)
        have h10 := fun (w : World) (g : Nat) (hc : w.cell? ⟨g, 0, none⟩ = some (.string o)) => sum_parts [o] (some ⟨g, 0, none⟩) 1 w (one_text_at' hc) (by simp) (by rw [joinB_one, HO.out]; omega)
        rw [joinB_one, HO.out] at h10
        simp only [show ([o] : List ByteArray).length = 1 from rfl, D8_Dg] at h10
        obtain ⟨d, hd⟩ : ∃ d, d = digB (joinB l) := ⟨_, rfl⟩
        have hdl : d.length = 32 := by rw [hd]; exact digB_length _
        rw [← hd] at h13 h11 h10
        have HE := Lib.hid (eq27 d hdl)
        have H13 := Lib.hid h13
        have H11 := Lib.hid h11
        have H10 := Lib.hid h10
        clear hd hdl h13 h11 h10
        go_wp2_with (first
          | (go_at_call 13; refine (H13.out _ hH).mono ?_; rintro e w3 ⟨rfl, b3⟩; replace hH := hH.below b3 (Nat.le_refl _); replace hB := hB.trans (b3.mono hB.size); clear b3)
          | (go_at_call 11; refine (H11.out _).mono ?_; rintro e w3 ⟨rfl, b3⟩; replace hB := hB.trans (b3.mono hB.size); have he := HE.out w3; clear b3)
          | (go_at_call 10; refine (H10.out (w3.alloc (.cells #[.string o] 9)) w3.heap.size ((Blk.new w3 9 #[.string o]).cell 0)).mono ?_; rintro e w5 ⟨rfl, b5⟩; have b3 : Below w3.heap.size w3 w5 := ((Below.refl _ _).alloc (Nat.le_refl _) _).trans (b5.mono (by simp)); replace hH := hH.below b3 (Nat.le_refl _); replace hB := hB.trans (b3.mono hB.size); have he := HE.out w5; clear b3 b5)
          | (go_at_call 9; refine (fixed_any _).mono ?_; rintro e w3 ⟨rfl, b3⟩; replace hB := hB.trans (b3.mono hB.size); clear b3))
        go_ret
        exact ⟨rfl, hB⟩
end Go.Proofs.Ytjpaajpjajoijaa
