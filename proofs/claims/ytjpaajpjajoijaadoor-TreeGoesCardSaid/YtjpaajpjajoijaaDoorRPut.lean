/- bloomeryref05.Put, Drop. -/
import Derived.Test.YtjpaajpjajoijaaDoorPut
namespace Go.Proofs.YtjpaajpjajoijaaDoor
set_option linter.unusedVariables false
open Go.RowKit
/-- Files with one put in, where they and what comes are trees. -/
def putL (l : List FileB) (f : FileB) : List FileB := if checkL l = 0 then (if checkL (withL l f) = 0 then withL l f else []) else []
/-- Files without a path. -/
def dropL (l : List FileB) (p : ByteArray) : List FileB := if checkL l = 0 then l.filter (fun f => !(f.1.toList == p.toList)) else []
theorem with_small {l : List FileB} {f : FileB} (hs : Small l) (hl : l.length ≤ 900) (hf : f.1.size ≤ 300 ∧ f.2.size ≤ 300) : Small (withL l f) :=
  ⟨by have := withL_len l f; omega, fun x hx => by
    rcases (withL_mem l f x).1 hx with rfl | ⟨h, _⟩
    · exact hf
    · exact hs.2 x h⟩
set_option maxHeartbeats 2000000 in
set_option maxRecDepth 100000 in
theorem rput_any (l : List FileB) (f : FileB) (A : Option Addr) (c : Nat) (w : World) (hF : Files w w.heap.size A l) (hs : Small l) (hl : l.length ≤ 900) (hf : f.1.size ≤ 300 ∧ f.2.size ≤ 300) :
    Calls Tryd.prog 44 #[.slice A l.length c, .agg #[.string f.1, .string f.2]] w fun e w' => ∃ (A' : Option Addr) (cap : Nat), e = .returned (.slice A' (putL l f).length cap) ∧
      w'.ownsRow w.heap.size 36 2 (.slice A' (putL l f).length cap) (putL l f).length (fcells (putL l f)) ∧ Below w.heap.size w w' := by
  obtain ⟨W0, hW0⟩ : ∃ W0, W0 = (w.alloc (.cells #[.string f.1, .string f.2] 36)).alloc (.cells #[] 36) := ⟨_, rfl⟩
  have hbox : Blk W0 w.heap.size 36 #[.string f.1, .string f.2] := by rw [hW0]; exact (Blk.new w 36 #[.string f.1, .string f.2]).alloc _
  have hz0 : W0.heap.size = w.heap.size + 2 := by rw [hW0, World.size_alloc, World.size_alloc]
  have hBw : Below w.heap.size w W0 := by rw [hW0]; exact ((Below.refl _ _).alloc (Nat.le_refl _) _).alloc (by simp) _
  have hfb : ∀ w', Below w.heap.size w w' → Files w' w'.heap.size A l := fun w' hb => (hF.below hb (Nat.le_refl _)).more hb.size
  have hown0 : W0.ownsRow w.heap.size 36 2 (.slice (some ⟨w.heap.size + 1, 0, none⟩) 0 0) 0 [] := by
    have h5 := World.ownsRow_lit (base := w.heap.size) (e := 36) (size := 2) (w.alloc (.cells #[.string f.1, .string f.2] 36)) #[] 0 (by simp) (by decide) rfl
    rw [World.size_alloc, ← hW0] at h5
    exact h5
  have hcb : ∀ wr, Below W0.heap.size W0 wr → wr.cell? ⟨w.heap.size, 0, none⟩ = some (.string f.1) ∧ wr.cell? ⟨w.heap.size, 1, none⟩ = some (.string f.2) := fun wr hb =>
    ⟨((hbox.below hb (by omega)).cell 0).trans rfl, ((hbox.below hb (by omega)).cell 1).trans rfl⟩
  have hck := fun w' hb => rcheck_any l A c w' (hfb w' hb) hs
  have hwi := fun w' hb => with_any l f A c w' (hfb w' hb) (by omega)
  have hck2 := fun A' c' w' h => rcheck_any (withL l f) A' c' w' h (with_small hs hl hf)
  have hpl : putL l f = if checkL l = 0 then (if checkL (withL l f) = 0 then withL l f else []) else [] := rfl
  obtain ⟨P, hP⟩ : ∃ P, P = putL l f := ⟨_, rfl⟩
  obtain ⟨X, hX⟩ : ∃ X, X = withL l f := ⟨_, rfl⟩
  obtain ⟨C, hC⟩ : ∃ C, C = checkL l := ⟨_, rfl⟩
  rw [← hX] at hwi hck2 hpl
  obtain ⟨D, hD⟩ : ∃ D, D = checkL X := ⟨_, rfl⟩
  rw [← hP, ← hC, ← hD] at hpl
  rw [← hP]
  simp only [← hC] at hck
  simp only [← hD] at hck2
  have HCK := Lib.hid hck
  have HWI := Lib.hid hwi
  have HCK2 := Lib.hid hck2
  have HCB := Lib.hid hcb
  have HOWN := Lib.hid hown0
  have HW0 := Lib.hid hW0
  clear hck hwi hck2 hcb hown0 hW0 hF hfb hbox hP hX hC hD
  by_cases hC0 : C = 0
  · rw [if_pos hC0] at hpl
    subst hC0
    by_cases hD0 : D = 0
    · rw [if_pos hD0] at hpl
      subst hD0
      subst hpl
      go_enter Tryd.func44, Tryd.ntmps44
      go_wp2_with fail
      rw [← HW0.out]
      go_wp2_with (first
        | (go_at_call 15; (with_reducible refine (HCK.out W0 hBw).mono ?_); rintro e w1 ⟨rfl, b1⟩; obtain ⟨x1, x2⟩ := HCB.out w1 b1; have b1' := hBw.trans (b1.mono (by omega)))
        | (go_at_call 66; (with_reducible refine (HWI.out w1 b1').mono ?_); rintro e w2 ⟨A2, cp2, rfl, own2, b2⟩; have f2 := Files.of_own own2; have b2' := b1'.trans (b2.mono b1'.size))
        | (go_at_call 15; (with_reducible refine (HCK2.out _ _ w2 f2).mono ?_); rintro e w3 ⟨rfl, b3⟩; have own3 := own_below own2 b3; have b3' := b2'.trans (b3.mono b2'.size)))
      go_ret
      exact ⟨_, _, rfl, own_more own3 b1'.size, b3'⟩
    · rw [if_neg hD0] at hpl
      have q1 : (D != 0) = true := bne_iff_ne.2 hD0
      subst hpl
      clear hD0
      go_enter Tryd.func44, Tryd.ntmps44
      go_wp2_with fail
      rw [← HW0.out]
      go_wp2_with (first
        | (go_at_call 15; (with_reducible refine (HCK.out W0 hBw).mono ?_); rintro e w1 ⟨rfl, b1⟩; obtain ⟨x1, x2⟩ := HCB.out w1 b1; have b1' := hBw.trans (b1.mono (by omega)); have own1 := own_below HOWN.out b1)
        | (go_at_call 66; (with_reducible refine (HWI.out w1 b1').mono ?_); rintro e w2 ⟨A2, cp2, rfl, own2, b2⟩; have f2 := Files.of_own own2; have b2' := b1'.trans (b2.mono b1'.size); have own1' := own_below own1 b2)
        | (go_at_call 15; (with_reducible refine (HCK2.out _ _ w2 f2).mono ?_); rintro e w3 ⟨rfl, b3⟩; have own3 := own_below own1' b3; have b3' := b2'.trans (b3.mono b2'.size)))
      go_ret
      exact ⟨_, 0, rfl, own3, b3'⟩
  · rw [if_neg hC0] at hpl
    have q1 : (C != 0) = true := bne_iff_ne.2 hC0
    subst hpl
    clear hC0
    go_enter Tryd.func44, Tryd.ntmps44
    go_wp2_with fail
    rw [← HW0.out]
    go_wp2_with (go_at_call 15; (with_reducible refine (HCK.out W0 hBw).mono ?_); rintro e w1 ⟨rfl, b1⟩; have own1 := own_below HOWN.out b1; have b1' := hBw.trans (b1.mono (by omega)))
    go_ret
    exact ⟨_, 0, rfl, own1, b1'⟩
set_option maxHeartbeats 2000000 in
set_option maxRecDepth 100000 in
theorem rdrop_any (l : List FileB) (p : ByteArray) (A : Option Addr) (c : Nat) (w : World) (hF : Files w w.heap.size A l) (hs : Small l) :
    Calls Tryd.prog 45 #[.slice A l.length c, .string p] w fun e w' => ∃ (A' : Option Addr) (cap : Nat), e = .returned (.slice A' (dropL l p).length cap) ∧
      w'.ownsRow w.heap.size 36 2 (.slice A' (dropL l p).length cap) (dropL l p).length (fcells (dropL l p)) ∧ Below w.heap.size w w' := by
  have hown0 := World.ownsRow_lit (base := w.heap.size) (e := 36) (size := 2) w #[] 0 (Nat.le_refl _) (by decide) rfl
  have hA0 : Below w.heap.size w (w.alloc (.cells #[] 36)) := (Below.refl _ _).alloc (Nat.le_refl _) _
  have hck := rcheck_any l A c (w.alloc (.cells #[] 36)) ((hF.below hA0 (Nat.le_refl _)).more (by simp)) hs
  obtain ⟨hn, hs⟩ := hs
  have hpl : dropL l p = if checkL l = 0 then l.filter (fun f => !(f.1.toList == p.toList)) else [] := rfl
  obtain ⟨P, hP⟩ : ∃ P, P = dropL l p := ⟨_, rfl⟩
  obtain ⟨C, hC⟩ : ∃ C, C = checkL l := ⟨_, rfl⟩
  rw [← hP, ← hC] at hpl
  rw [← hP]
  rw [← hC] at hck
  have HF := Lib.hid hF
  have HCK := Lib.hid hck
  have HOWN := Lib.hid hown0
  clear hF hs hck hC hP hown0
  obtain ⟨i0, hi, hz0, hz1, hz2⟩ := info_parts info36p
  by_cases hC0 : C = 0
  · rw [if_pos hC0] at hpl
    subst hC0
    have HP := Lib.hid hpl
    clear hpl
    go_enter Tryd.func45, Tryd.ntmps45
    go_wp2_with (go_at_call 15; (with_reducible refine HCK.out.mono ?_); rintro e w1 ⟨rfl, b1⟩; simp only [World.size_alloc] at b1)
    have hown1 : w1.ownsRow w.heap.size 36 2 (.slice (some ⟨w.heap.size, 0, none⟩) 0 0) 0 [] := own_below HOWN.out (by rw [World.size_alloc]; exact b1)
    have b2 : Below w.heap.size w w1 := hA0.trans (b1.mono (by omega))
    go_loopw [5, 6, 14] (fun o _ i wr => ∃ (k n : Nat) (A' : Option Addr) (cap : Nat), k ≤ l.length ∧ n ≤ k ∧ i = .int .i64 k ∧ o = .slice A' n cap ∧ Hid (n = ((l.take k).filter (fun f => !(f.1.toList == p.toList))).length) ∧
      wr.ownsRow w.heap.size 36 2 (.slice A' n cap) n (fcells ((l.take k).filter (fun f => !(f.1.toList == p.toList)))) ∧ Below w.heap.size w wr) (fun _ _ i _ => l.length - (intOf i).toNat)
    case atStart => exact ⟨0, 0, _, 0, by omega, by omega, rfl, rfl, Lib.hid rfl, hown1, b2⟩
    case round =>
      clear hown1 b1 b2
      obtain ⟨k, n, A', cap, hk, hnk, rfl, rfl, hnn, hown, hB⟩ := hrel
      by_cases hlt : k < l.length
      · obtain ⟨a, rfl, hab, hc⟩ := (HF.out.below hB (Nat.le_refl _)) (by omega)
        obtain ⟨c1, c2⟩ := hc k l[k] (List.getElem?_eq_getElem hlt)
        have hft := filter_take_succ l (fun f => !(f.1.toList == p.toList)) k hlt
        obtain ⟨f, hf⟩ : ∃ f, f = l[k] := ⟨_, rfl⟩
        rw [← hf] at c1 c2 hft
        obtain ⟨xs, hxs⟩ : ∃ xs, xs = (l.take k).filter (fun f => !(f.1.toList == p.toList)) := ⟨_, rfl⟩
        rw [← hxs] at hnn hown hft
        have hsz := hB.size
        cases he : f.1.toList == p.toList with
        | true =>
          have e1 : f.1.toList = p.toList := beq_iff_eq.1 he
          have e2 : (f.1.toList != p.toList) = false := by rw [bne, he]; rfl
          rw [he] at hft
          have HFT := Lib.hid hft
          have E1 := Lib.hid e1
          clear hf hc hft hxs e1
          go_wp2
          go_roundw
          case rel => exact ⟨k + 1, n, A', cap, by omega, by omega, by go_num, rfl, Lib.hid (by rw [HFT.out, hnn.out]; simp), by rw [HFT.out]; simpa using hown, hB⟩
          case measure => simp [intOf]; omega
        | false =>
          have e1 : ¬ f.1.toList = p.toList := beq_eq_false_iff_ne.1 he
          have e2 : (f.1.toList != p.toList) = true := by rw [bne, he]; rfl
          rw [he] at hft
          have HFT := Lib.hid hft
          clear hf hc hft hxs
          go_wp2_with (at_builtin; refine wpList_append_lies _ rfl (.tmp 24) (.tmp 29) 22 rfl w.heap.size 36 i0 (.agg #[.string ⟨#[]⟩, .string ⟨#[]⟩]) 2 32 Tryd.underlying22 hi hz0 hz1 hz2 rfl (by decide) (.slice A' n cap) n _ rfl (hown.alloc _) ⟨wr.heap.size, 0, none⟩ 1 1 [.string f.1, .string f.2] rfl rfl (news_two _ _ _ _) (by simp [Value.oneCell']) (by decide) (by unfold maxLen; omega) (by omega) (by simp; omega) _ rfl ?_; intro g2 cap2 w2 hown2 hgrow hat hg2)
          go_roundw
          case rel => exact ⟨k + 1, n + 1, some ⟨g2, 0, none⟩, cap2, by omega, by omega, by go_num, rfl, Lib.hid (by rw [HFT.out, hnn.out]; simp), by rw [HFT.out]; simpa [fcells_append, fcells_one] using hown2, (hB.alloc hsz _).grown hgrow (by simp; omega) (fun j e => (hown.lt _ e).1)⟩
          case measure => simp [intOf]; omega
      · have hfin : l.take k = l := List.take_of_length_le (by omega)
        rw [hfin, ← HP.out] at hown hnn
        have hnn2 := hnn.out
        subst hnn2
        clear hfin
        go_wp2
        go_ret
        exact ⟨_, _, rfl, hown, hB⟩
  · rw [if_neg hC0] at hpl
    have q1 : (C != 0) = true := bne_iff_ne.2 hC0
    subst hpl
    clear hC0
    go_enter Tryd.func45, Tryd.ntmps45
    go_wp2_with (go_at_call 15; (with_reducible refine HCK.out.mono ?_); rintro e w1 ⟨rfl, b1⟩; simp only [World.size_alloc] at b1)
    go_ret
    exact ⟨_, 0, rfl, own_below HOWN.out (by rw [World.size_alloc]; exact b1), hA0.trans (b1.mono (by omega))⟩
end Go.Proofs.YtjpaajpjajoijaaDoor
