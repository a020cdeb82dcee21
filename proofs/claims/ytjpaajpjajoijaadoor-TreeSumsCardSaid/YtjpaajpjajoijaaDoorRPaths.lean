/- bloomeryref05.Paths. -/
import Derived.Test.YtjpaajpjajoijaaDoorTPaths
namespace Go.Proofs.YtjpaajpjajoijaaDoor
set_option linter.unusedVariables false
open Go.RowKit
theorem lookF_zero {f : FileB} {ah : Option ByteArray} (h : lookF f ah = 0) : bad7 f.1 = false := by
  cases hb : bad7 f.1 with
  | false => rfl
  | true => rw [lookF_bad hb] at h; exact absurd h (by decide)
theorem checkFrom_good : ∀ (l : List FileB) (ah : Option ByteArray), checkFrom ah l = 0 → ∀ f ∈ l, bad7 f.1 = false
  | [], _, _, f, hf => by cases hf
  | g :: l, ah, h, f, hf => by
    unfold checkFrom at h
    by_cases h0 : lookF g ah = 0
    · rw [if_pos h0] at h
      rcases List.mem_cons.1 hf with rfl | hf
      · exact lookF_zero h0
      · exact checkFrom_good l _ h f hf
    · rw [if_neg h0] at h
      exact absurd h h0
theorem check_okPath {l : List FileB} (h : checkL l = 0) : ∀ f ∈ l, okPath f.1.data.toList = true := fun f hf => by
  have := checkFrom_good l none h f hf
  unfold bad7 at this
  rw [Bool.or_eq_false_iff, Bool.not_eq_false'] at this
  exact this.1
theorem underL_top (p : List UInt8) : underL p [] = okPath p := by unfold underL; simp
set_option maxHeartbeats 2000000 in
set_option maxRecDepth 100000 in
theorem rpaths_any (l : List FileB) (d : ByteArray) (A : Option Addr) (c : Nat) (w : World) (hF : Files w w.heap.size A l) (hs : Small l) (hd : d.size ≤ 300) :
    Calls Tryd.prog 42 #[.slice A l.length c, .string d] w fun e w' => ∃ (A' : Option Addr) (cap : Nat), e = .returned (.slice A' (pathsL l d).length cap) ∧
      w'.ownsRow w.heap.size 9 1 (.slice A' (pathsL l d).length cap) (pathsL l d).length ((pathsL l d).map Tv) ∧ Below w.heap.size w w' := by
  have hown0 := World.ownsRow_lit (base := w.heap.size) (e := 9) (size := 1) w #[] 0 (Nat.le_refl _) (by decide) rfl
  have hA0 : Below w.heap.size w (w.alloc (.cells #[] 9)) := (Below.refl _ _).alloc (Nat.le_refl _) _
  have hck := rcheck_any l A c (w.alloc (.cells #[] 9)) ((hF.below hA0 (Nat.le_refl _)).more (by simp)) hs
  obtain ⟨hn, hs⟩ := hs
  have hpl : pathsL l d = if checkL l = 0 then (l.map (·.1)).filter (fun p => underL p.data.toList d.data.toList) else [] := rfl
  have hgood := @check_okPath l
  obtain ⟨P, hP⟩ : ∃ P, P = pathsL l d := ⟨_, rfl⟩
  obtain ⟨C, hC⟩ : ∃ C, C = checkL l := ⟨_, rfl⟩
  rw [← hP, ← hC] at hpl
  rw [← hP]
  rw [← hC] at hck hgood
  have HF := Lib.hid hF
  have HS := Lib.hid hs
  have HCK := Lib.hid hck
  have HOWN := Lib.hid hown0
  clear hF hs hck hC hP hown0
  obtain ⟨i0, hi, hz0, hz1, hz2⟩ := info_parts info9p
  by_cases hC0 : C = 0
  · rw [if_pos hC0] at hpl
    have hgood2 := hgood hC0
    clear hgood
    subst hC0
    have HP := Lib.hid hpl
    have HGOOD := Lib.hid hgood2
    clear hpl hgood2
    cases c1 : d.toList.isEmpty with
    | true =>
      obtain ⟨d1, rfl⟩ := empty_forms c1
      go_enter Tryd.func42, Tryd.ntmps42
      go_wp2_with (go_at_call 15; (with_reducible refine HCK.out.mono ?_); rintro e w1 ⟨rfl, b1⟩; simp only [World.size_alloc] at b1)
      have hown1 : w1.ownsRow w.heap.size 9 1 (.slice (some ⟨w.heap.size, 0, none⟩) 0 0) 0 [] := own_below HOWN.out (by rw [World.size_alloc]; exact b1)
      have b2 : Below w.heap.size w w1 := hA0.trans (b1.mono (by omega))
      go_loopw [5, 6, 14] (fun o _ i wr => ∃ (k n : Nat) (A' : Option Addr) (cap : Nat), k ≤ l.length ∧ n ≤ k ∧ i = .int .i64 k ∧ o = .slice A' n cap ∧ Hid (n = (((l.map (·.1)).take k).filter (fun p => underL p.data.toList [])).length) ∧
        wr.ownsRow w.heap.size 9 1 (.slice A' n cap) n ((((l.map (·.1)).take k).filter (fun p => underL p.data.toList [])).map Tv) ∧ Below w.heap.size w wr) (fun _ _ i _ => l.length - (intOf i).toNat)
      case atStart => exact ⟨0, 0, _, 0, by omega, by omega, rfl, rfl, Lib.hid rfl, hown1, b2⟩
      case round =>
        clear hown1 b1 b2
        obtain ⟨k, n, A', cap, hk, hnk, rfl, rfl, hnn, hown, hB⟩ := hrel
        by_cases hlt : k < l.length
        · obtain ⟨a, rfl, hab, hc⟩ := (HF.out.below hB (Nat.le_refl _)) (by omega)
          obtain ⟨c1, c2⟩ := hc k l[k] (List.getElem?_eq_getElem hlt)
          have hft := filter_take_succ (l.map (·.1)) (fun p => underL p.data.toList []) k (by rw [List.length_map]; exact hlt)
          rw [List.getElem_map] at hft
          have hg := HGOOD.out l[k] (List.getElem_mem hlt)
          obtain ⟨f, hf⟩ : ∃ f, f = l[k] := ⟨_, rfl⟩
          rw [← hf] at c1 c2 hft hg
          rw [underL_top, hg, if_pos rfl] at hft
          obtain ⟨xs, hxs⟩ : ∃ xs, xs = ((l.map (·.1)).take k).filter (fun p => underL p.data.toList []) := ⟨_, rfl⟩
          rw [← hxs] at hnn hown hft
          have HFT := Lib.hid hft
          have hsz := hB.size
          clear hf hc hft hxs hg
          go_wp2_with (at_builtin; refine wpList_append_lies _ rfl (.tmp 28) (.tmp 34) 47 rfl w.heap.size 9 i0 (.string ⟨#[]⟩) 1 16 Tryd.underlying47 hi hz0 hz1 hz2 rfl (by decide) (.slice A' n cap) n _ rfl (hown.alloc _) ⟨wr.heap.size, 0, none⟩ 1 1 [.string f.1] rfl rfl (news_one _ _ _) (by simp [Value.oneCell']) (by decide) (by unfold maxLen; omega) (by omega) (by simp; omega) _ rfl ?_; intro g2 cap2 w2 hown2 hgrow hat hg2)
          go_roundw
          case rel => exact ⟨k + 1, n + 1, some ⟨g2, 0, none⟩, cap2, by omega, by omega, by go_num, rfl, Lib.hid (by rw [HFT.out, hnn.out]; simp), by rw [HFT.out]; simpa [Tv] using hown2, (hB.alloc hsz _).grown hgrow (by simp; omega) (fun j e => (hown.lt _ e).1)⟩
          case measure => simp [intOf]; omega
        · have hfin : (l.map (·.1)).take k = l.map (·.1) := List.take_of_length_le (by rw [List.length_map]; omega)
          have hp2 : P = (l.map (·.1)).filter (fun p => underL p.data.toList []) := HP.out
          rw [hfin, ← hp2] at hown hnn
          have hnn2 := hnn.out
          subst hnn2
          clear hfin hp2
          go_wp2
          go_ret
          exact ⟨_, _, rfl, hown, hB⟩
    | false =>
      have d1 := full_forms c1
      go_enter Tryd.func42, Tryd.ntmps42
      go_wp2_with (go_at_call 15; (with_reducible refine HCK.out.mono ?_); rintro e w1 ⟨rfl, b1⟩; simp only [World.size_alloc] at b1)
      have hown1 : w1.ownsRow w.heap.size 9 1 (.slice (some ⟨w.heap.size, 0, none⟩) 0 0) 0 [] := own_below HOWN.out (by rw [World.size_alloc]; exact b1)
      have b2 : Below w.heap.size w w1 := hA0.trans (b1.mono (by omega))
      go_loopw [5, 6, 14] (fun o _ i wr => ∃ (k n : Nat) (A' : Option Addr) (cap : Nat), k ≤ l.length ∧ n ≤ k ∧ i = .int .i64 k ∧ o = .slice A' n cap ∧ Hid (n = (((l.map (·.1)).take k).filter (fun p => underL p.data.toList d.data.toList)).length) ∧
        wr.ownsRow w.heap.size 9 1 (.slice A' n cap) n ((((l.map (·.1)).take k).filter (fun p => underL p.data.toList d.data.toList)).map Tv) ∧ Below w.heap.size w wr) (fun _ _ i _ => l.length - (intOf i).toNat)
      case atStart => exact ⟨0, 0, _, 0, by omega, by omega, rfl, rfl, Lib.hid rfl, hown1, b2⟩
      case round =>
        clear hown1 b1 b2
        obtain ⟨k, n, A', cap, hk, hnk, rfl, rfl, hnn, hown, hB⟩ := hrel
        by_cases hlt : k < l.length
        · obtain ⟨a, rfl, hab, hc⟩ := HF.out (by omega)
          have hcells : ∀ w1, Below w.heap.size w w1 → w1.cell? (a.add (k * 2)) = some (.string l[k].1) := fun w1 hb =>
            (hb.cell (p := a.add (k * 2)) (by rw [add_block]; omega)).trans (hc k l[k] (List.getElem?_eq_getElem hlt)).1
          obtain ⟨s1, s2⟩ := HS.out l[k] (List.getElem_mem hlt)
          have hft := filter_take_succ (l.map (·.1)) (fun p => underL p.data.toList d.data.toList) k (by rw [List.length_map]; exact hlt)
          rw [List.getElem_map] at hft
          obtain ⟨f, hf⟩ : ∃ f, f = l[k] := ⟨_, rfl⟩
          rw [← hf] at hcells s1 s2 hft
          have hu := fun w => runder_any f.1 d w (by omega)
          obtain ⟨un, hun⟩ : ∃ un, un = underL f.1.data.toList d.data.toList := ⟨_, rfl⟩
          rw [← hun] at hu hft
          obtain ⟨xs, hxs⟩ : ∃ xs, xs = ((l.map (·.1)).take k).filter (fun p => underL p.data.toList d.data.toList) := ⟨_, rfl⟩
          rw [← hxs] at hnn hown hft
          have HU := Lib.hid hu
          have HFT := Lib.hid hft
          have k0 := hcells wr hB
          have HCE := Lib.hid hcells
          have hsz := hB.size
          clear hf hc hu hun hft hxs hcells
          cases un with
          | false =>
            go_wp2_with (go_at_call 31; (with_reducible refine (HU.out _).mono ?_); rintro e w1 ⟨rfl, b1⟩; have hown1 := own_below hown b1; replace b1 := hB.trans (b1.mono hsz))
            go_roundw
            case rel => exact ⟨k + 1, n, A', cap, by omega, by omega, by go_num, rfl, Lib.hid (by rw [HFT.out, hnn.out]; simp), by rw [HFT.out]; simpa using hown1, b1⟩
            case measure => simp [intOf]; omega
          | true =>
            go_wp2_with (first | (go_at_call 31; (with_reducible refine (HU.out _).mono ?_); rintro e w1 ⟨rfl, b1⟩; have hown1 := own_below hown b1; replace b1 := hB.trans (b1.mono hsz); have hsz1 := b1.size; have k1 := HCE.out w1 b1) | (at_builtin; refine wpList_append_lies _ rfl (.tmp 28) (.tmp 34) 47 rfl w.heap.size 9 i0 (.string ⟨#[]⟩) 1 16 Tryd.underlying47 hi hz0 hz1 hz2 rfl (by decide) (.slice A' n cap) n _ rfl (hown1.alloc _) ⟨w1.heap.size, 0, none⟩ 1 1 [.string f.1] rfl rfl (news_one _ _ _) (by simp [Value.oneCell']) (by decide) (by unfold maxLen; omega) (by omega) (by simp; omega) _ rfl ?_; intro g2 cap2 w2 hown2 hgrow hat hg2))
            go_roundw
            case rel => exact ⟨k + 1, n + 1, some ⟨g2, 0, none⟩, cap2, by omega, by omega, by go_num, rfl, Lib.hid (by rw [HFT.out, hnn.out]; simp), by rw [HFT.out]; simpa [Tv] using hown2, (b1.alloc hsz1 _).grown hgrow (by simp; omega) (fun j e => (hown1.lt _ e).1)⟩
            case measure => simp [intOf]; omega
        · have hfin : (l.map (·.1)).take k = l.map (·.1) := List.take_of_length_le (by rw [List.length_map]; omega)
          rw [hfin, ← HP.out] at hown hnn
          have hnn2 := hnn.out
          subst hnn2
          clear hfin
          go_wp2
          go_ret
          exact ⟨_, _, rfl, hown, hB⟩
  · rw [if_neg hC0] at hpl
    have q1 : (C != 0) = true := bne_iff_ne.2 hC0
    subst hpl
    clear hC0 hgood
    go_enter Tryd.func42, Tryd.ntmps42
    go_wp2_with (go_at_call 15; (with_reducible refine HCK.out.mono ?_); rintro e w1 ⟨rfl, b1⟩; simp only [World.size_alloc] at b1)
    go_ret
    exact ⟨_, 0, rfl, own_below HOWN.out (by rw [World.size_alloc]; exact b1), hA0.trans (b1.mono (by omega))⟩
end Go.Proofs.YtjpaajpjajoijaaDoor
