/- The law TreePuts, walked. -/
import Derived.Test.YtjpaajpjajoijaaDoorTPut
import Derived.Test.YtjpaajpjajoijaaDoorTDrop
import Derived.Test.YtjpaajpjajoijaaDoorGets
namespace Go.Proofs.YtjpaajpjajoijaaDoor
set_option linter.unusedVariables false
open Go.RowKit
theorem get_mem {l : List FileB} (hR : Rising l) {g : FileB} (hg : g ∈ l) : getL l g.1 = some g.2 := by
  unfold getL
  cases h : l.find? (isP g.1) with
  | none => 
    have := List.find?_eq_none.1 h g hg
    unfold isP at this
    simp at this
  | some x =>
    have h1 := List.mem_of_find?_eq_some h
    have h2 := List.find?_some h
    unfold isP at h2
    rw [eqB_iff] at h2
    rw [rising_unique hR h1 hg h2]
    rfl
/-- What Get tells of the files behind Put. -/
theorem get_put {l : List FileB} {f g : FileB} (hR : Rising l) (hg : g ∈ l) : getL (withL l f) g.1 = some (if g.1 = f.1 then f.2 else g.2) := by
  have hW := withL_rising hR f
  by_cases h : g.1 = f.1
  · rw [if_pos h, h]
    exact get_mem hW ((withL_mem l f f).2 (.inl rfl))
  · rw [if_neg h]
    exact get_mem hW ((withL_mem l f g).2 (.inr ⟨hg, h⟩))
theorem putL_cases (l : List FileB) (f : FileB) : putL l f = [] ∨ (Rising l ∧ putL l f = withL l f ∧ checkL (withL l f) = 0) := by
  unfold putL
  by_cases h : checkL l = 0
  · by_cases h2 : checkL (withL l f) = 0
    · rw [if_pos h, if_pos h2]
      exact .inr ⟨((checkL_iff l).1 h).2, rfl, h2⟩
    · rw [if_pos h, if_neg h2]
      exact .inl rfl
  · rw [if_neg h]
    exact .inl rfl
set_option maxHeartbeats 4000000 in
set_option maxRecDepth 100000 in
theorem treePuts_any (l : List FileB) (f : FileB) (p : ByteArray) (A : Option Addr) (c : Nat) (w : World) (hF : Files w w.heap.size A l) (hn : l.length ≤ 4611686018427387904) (hs : ∀ f ∈ l, f.1.size ≤ maxLen ∧ f.2.size ≤ maxLen)
    (hf : f.1.size ≤ maxLen ∧ f.2.size ≤ maxLen) (hp : p.size ≤ maxLen) :
    Calls Tryd.prog 13 #[.slice A l.length c, .agg #[.string f.1, .string f.2], .string p] w fun e w' => e = .returned (.bool true) ∧ Below w.heap.size w w' := by
  unfold maxLen at hp
  obtain ⟨W0, hW0⟩ : ∃ W0, W0 = w.alloc (.cells #[.string f.1, .string f.2] 36) := ⟨_, rfl⟩
  have hbox : Blk W0 w.heap.size 36 #[.string f.1, .string f.2] := by rw [hW0]; exact Blk.new w 36 #[.string f.1, .string f.2]
  have hz0 : W0.heap.size = w.heap.size + 1 := by rw [hW0, World.size_alloc]
  have hBw : Below w.heap.size w W0 := by rw [hW0]; exact (Below.refl _ _).alloc (Nat.le_refl _) _
  have hF0 : Files W0 W0.heap.size A l := (hF.below hBw (Nat.le_refl _)).more (by omega)
  have hcb : ∀ wr, Below W0.heap.size W0 wr → wr.cell? ⟨w.heap.size, 0, none⟩ = some (.string f.1) ∧ wr.cell? ⟨w.heap.size, 1, none⟩ = some (.string f.2) := fun wr hb =>
    ⟨((hbox.below hb (by omega)).cell 0).trans rfl, ((hbox.below hb (by omega)).cell 1).trans rfl⟩
  obtain ⟨x1, x2⟩ := hcb W0 (Below.refl _ _)
  have hg : Calls Tryd.prog 14 #[.slice A l.length c] W0 fun e w' => e = .returned (.bool (greatL l)) ∧ W0 = w' := (great_any l A c W0 hF0 hn hs).mono fun e w' h => ⟨h.1, h.2.symm⟩
  obtain ⟨W1, hW1⟩ : ∃ W1, W1 = W0.alloc (.cells #[.string f.1, .string f.2] 36) := ⟨_, rfl⟩
  have hB1 : Below W0.heap.size W0 W1 := by rw [hW1]; exact (Below.refl _ _).alloc (Nat.le_refl _) _
  have hF1 : Files W1 W1.heap.size (some ⟨W0.heap.size, 0, none⟩) [f] := fun _ => by
    have hb1 : Blk W1 W0.heap.size 36 #[.string f.1, .string f.2] := by rw [hW1]; exact Blk.new _ _ _
    refine ⟨_, rfl, hb1.lt, fun j g hj => ?_⟩
    have hj0 : j = 0 := by
      have := (List.getElem?_eq_some_iff.1 hj).1
      simpa using this
    subst hj0
    cases hj
    exact ⟨(hb1.cell 0).trans rfl, (hb1.cell 1).trans rfl⟩
  have hgf : Calls Tryd.prog 14 #[.slice (some ⟨W0.heap.size, 0, none⟩) 1 1] W1 fun e w' => e = .returned (.bool (greatL [f])) ∧ W1 = w' := (great_any [f] (some ⟨W0.heap.size, 0, none⟩) 1 W1 hF1 (by simp) (fun x hx => by rw [List.mem_singleton.1 hx]; exact hf)).mono fun e w' h => ⟨h.1, h.2.symm⟩
  obtain ⟨x3, x4⟩ := hcb W1 hB1
  have hz1 : W0.heap.size ≤ W1.heap.size := hB1.size
  have hz2 : w.heap.size ≤ W0.heap.size := by omega
  have HW0 := Lib.hid hW0
  clear hW0 hF1 hz0
  subst hW1
  cases hgr : greatL l with
  | true =>
    rw [hgr] at hg
    have HG := Lib.hid hg
    clear hg hgr hF hs hgf hcb hbox
    go_enter Tryd.func13, Tryd.ntmps13
    go_wp2_with fail
    rw [← HW0.out]
    go_wp2_with (first
      | (go_at_call 14; (with_reducible refine HG.out.mono ?_); rintro e w1 ⟨rfl, rfl⟩)
      | (go_at_call 16; (with_reducible refine (fixed_any _).mono ?_); rintro e w2 ⟨rfl, b2⟩))
    go_ret
    exact ⟨rfl, hBw.trans (b2.mono (by omega))⟩
  | false =>
    rw [hgr] at hg
    have HG := Lib.hid hg
    obtain ⟨g1, g2⟩ := great_not hgr
    clear hg hgr hs
    cases hgr2 : greatL [f] with
    | true =>
      rw [hgr2] at hgf
      have HGF := Lib.hid hgf
      clear hgf hgr2 g2 hcb hbox hF hF0
      go_enter Tryd.func13, Tryd.ntmps13
      go_wp2_with fail
      rw [← HW0.out]
      go_wp2_with (first
        | (go_at_call 14; (with_reducible refine HG.out.mono ?_); rintro e w1 ⟨rfl, rfl⟩)
        | (go_at_call 14; (with_reducible refine HGF.out.mono ?_); rintro e w1 ⟨rfl, rfl⟩)
        | (go_at_call 16; (with_reducible refine (fixed_any _).mono ?_); rintro e w2 ⟨rfl, b2⟩))
      go_ret
      exact ⟨rfl, hBw.trans ((hB1.trans (b2.mono (by first | omega | (simp; done) | (simp; omega)))).mono (by omega))⟩
    | false =>
      rw [hgr2] at hgf
      have HGF := Lib.hid hgf
      have hf3 := (great_not hgr2).2 f (List.mem_singleton.2 rfl)
      clear hgf hgr2
      by_cases h1 : 300 < p.size
      · clear g2 hcb hbox hF hF0
        go_enter Tryd.func13, Tryd.ntmps13
        go_wp2_with fail
        rw [← HW0.out]
        go_wp2_with (first
          | (go_at_call 14; (with_reducible refine HG.out.mono ?_); rintro e w1 ⟨rfl, rfl⟩)
          | (go_at_call 14; (with_reducible refine HGF.out.mono ?_); rintro e w1 ⟨rfl, rfl⟩)
          | (go_at_call 16; (with_reducible refine (fixed_any _).mono ?_); rintro e w2 ⟨rfl, b2⟩))
        go_ret
        exact ⟨rfl, hBw.trans ((hB1.trans (b2.mono (by first | omega | (simp; done) | (simp; omega)))).mono (by omega))⟩
      · have hsm : Small l := ⟨by omega, g2⟩
        have hfb := fun w1 (hb : Below W0.heap.size W0 w1) => (hF0.below hb (Nat.le_refl _)).more hb.size
        have hput := fun w1 hb => tput_any l f A c w1 (hfb w1 hb) hsm (by omega) hf3
        have hrput := fun w1 hb => rput_any l f A c w1 (hfb w1 hb) hsm (by omega) hf3
        have hdrop := fun w1 hb => tdrop_any l p A c w1 (hfb w1 hb) hsm (by omega)
        have hrdrop := fun w1 hb => rdrop_any l p A c w1 (hfb w1 hb) hsm
        have hXl : (putL l f).length ≤ 61 := by
          rcases putL_cases l f with h | ⟨_, h, _⟩
          · rw [h]; simp
          · rw [h]
            have := withL_len l f
            omega
        have hYl : (dropL l p).length ≤ 60 := by
          unfold dropL
          split
          · have := List.length_filter_le (fun f : FileB => !(f.1.toList == p.toList)) l
            omega
          · simp
        have hsx := fun A1 A2 c1 c2 w' h1 h2 => same_any (putL l f) (putL l f) A1 A2 c1 c2 w' h1 h2 (by omega) (by omega)
        have hsy := fun A1 A2 c1 c2 w' h1 h2 => same_any (dropL l p) (dropL l p) A1 A2 c1 c2 w' h1 h2 (by omega) (by omega)
        have hget := fun q A1 c1 w' h => tget_any (putL l f) q A1 c1 w' h (by omega)
        have hcs := putL_cases l f
        have hsmX : checkL (putL l f) = 0 → Small (putL l f) := fun _ => by
          rcases putL_cases l f with h | ⟨_, h, _⟩
          · rw [h]; exact ⟨by simp, fun x hx => by cases hx⟩
          · rw [h]; exact with_small hsm (by omega) hf3
        have hckx := fun A1 c1 w' h hz => tcheck_any (putL l f) A1 c1 w' h (hsmX hz)
        have hgp := fun g (hR : Rising l) hg => @get_put l f g hR hg
        rw [sameL_self] at hsx hsy
        obtain ⟨Y, hY⟩ : ∃ Y, Y = dropL l p := ⟨_, rfl⟩
        rw [← hY] at hdrop hrdrop hsy
        obtain ⟨X, hX⟩ : ∃ X, X = putL l f := ⟨_, rfl⟩
        rw [← hX] at hput hrput hsx hget hckx hcs hXl
        have HPUT := Lib.hid hput
        have HRPUT := Lib.hid hrput
        have HDROP := Lib.hid hdrop
        have HRDROP := Lib.hid hrdrop
        have HSX := Lib.hid hsx
        have HSY := Lib.hid hsy
        have HGET := Lib.hid hget
        have HCKX := Lib.hid hckx
        have HGP := Lib.hid hgp
        have HCB := Lib.hid hcb
        have HF0 := Lib.hid hF0
        clear hput hrput hdrop hrdrop hsx hsy hget hckx hgp hsmX hcb hY hX hfb hYl hF hF0 hbox g2
        rcases hcs with h0 | ⟨hR, hXW, hcX⟩
        · have q0 : (X.length : Int) = 0 := by rw [h0]; rfl
          clear h0
          go_enter Tryd.func13, Tryd.ntmps13
          go_wp2_with fail
          rw [← HW0.out]
          go_wp2_with (first
            | (go_at_call 14; (with_reducible refine HG.out.mono ?_); rintro e w1 ⟨rfl, rfl⟩)
            | (go_at_call 14; (with_reducible refine HGF.out.mono ?_); rintro e w1 ⟨rfl, rfl⟩)
            | (go_at_call 21; (with_reducible refine (HPUT.out _ hB1).mono ?_); rintro e w2 ⟨A2, cp2, rfl, own2, b2⟩; have b2' := hB1.trans (b2.mono hB1.size); have f2 := Files.of_own own2; obtain ⟨x5, x6⟩ := HCB.out w2 b2')
            | (go_at_call 19; (with_reducible refine (HDROP.out _ b2').mono ?_); rintro e w3 ⟨A3, cp3, rfl, own3, b3⟩; have b3' := b2'.trans (b3.mono b2'.size); have f2' := (f2.below b3 (Nat.le_refl _)).more b3.size; have f3 := Files.of_own own3; obtain ⟨x7, x8⟩ := HCB.out w3 b3')
            | (go_at_call 44; (with_reducible refine (HRPUT.out _ b3').mono ?_); rintro e w4 ⟨A4, cp4, rfl, own4, b4⟩; have b4' := b3'.trans (b4.mono b3'.size); have f2'' := (f2'.below b4 (Nat.le_refl _)).more b4.size; have f3' := (f3.below b4 (Nat.le_refl _)).more b4.size; have f4 := Files.of_own own4; obtain ⟨x9, x10⟩ := HCB.out w4 b4')
            | (go_at_call 22; (with_reducible refine (HSX.out _ _ _ _ _ f2'' f4).mono ?_); rintro e w5 ⟨rfl, b5⟩; have b5' := b4'.trans (b5.mono b4'.size); have f3'' := (f3'.below b5 (Nat.le_refl _)).more b5.size)
            | (go_at_call 45; (with_reducible refine (HRDROP.out _ b5').mono ?_); rintro e w6 ⟨A6, cp6, rfl, own6, b6⟩; have b6' := b5'.trans (b6.mono b5'.size); have f3q := (f3''.below b6 (Nat.le_refl _)).more b6.size; have f6 := Files.of_own own6)
            | (go_at_call 22; (with_reducible refine (HSY.out _ _ _ _ _ f3q f6).mono ?_); rintro e w7 ⟨rfl, b7⟩; have b7' := b6'.trans (b7.mono b6'.size))
            | (go_at_call 16; (with_reducible refine (fixed_any _).mono ?_); rintro e w8 ⟨rfl, b8⟩))
          go_ret
          exact ⟨rfl, hBw.trans ((b7'.trans (b8.mono b7'.size)).mono (by omega))⟩
        · have hm : 0 < X.length := by
            have hfm : f ∈ X := by rw [hXW]; exact (withL_mem l f f).2 (.inl rfl)
            cases X with
            | nil => cases hfm
            | cons _ _ => simp
          have hgf1 : ∀ A1 c1 w', Files w' w'.heap.size A1 X → Calls Tryd.prog 39 #[.slice A1 X.length c1, .string f.1] w' fun e w'' => e = .returned (.tuple #[.string f.2, .bool true]) ∧ Below w'.heap.size w' w'' := fun A1 c1 w' h => by
            have h5 := HGET.out f.1 A1 c1 w' h
            have h6 : getL X f.1 = some f.2 := by rw [hXW]; exact get_mem (withL_rising hR f) ((withL_mem l f f).2 (.inl rfl))
            rw [h6] at h5
            exact h5
          have hgg : ∀ g, g ∈ l → ∀ A1 c1 w', Files w' w'.heap.size A1 X → Calls Tryd.prog 39 #[.slice A1 X.length c1, .string g.1] w' fun e w'' => e = .returned (.tuple #[.string (if g.1 = f.1 then f.2 else g.2), .bool true]) ∧ Below w'.heap.size w' w'' := fun g hg A1 c1 w' h => by
            have h5 := HGET.out g.1 A1 c1 w' h
            rw [hXW, get_put hR hg, ← hXW] at h5
            exact h5
          have hck0 : ∀ A1 c1 w', Files w' w'.heap.size A1 X → Calls Tryd.prog 25 #[.slice A1 X.length c1] w' fun e w'' => e = .returned (.int .i64 0) ∧ Below w'.heap.size w' w'' := fun A1 c1 w' h => by
            have h5 := HCKX.out A1 c1 w' h (by rw [hXW]; exact hcX)
            rw [show checkL X = 0 from by rw [hXW]; exact hcX] at h5
            exact h5
          have HGF1 := Lib.hid hgf1
          have HGG := Lib.hid hgg
          have HCK0 := Lib.hid hck0
          have q0 : ¬ (X.length : Int) = 0 := by omega
          have q0b : ((X.length : Int) == 0) = false := beq_eq_false_iff_ne.2 q0
          clear hgf1 hgg hck0 hXW hcX hR HGET HCKX HGP
          go_enter Tryd.func13, Tryd.ntmps13
          go_wp2_with fail
          rw [← HW0.out]
          go_wp2_with (first
            | (go_at_call 14; (with_reducible refine HG.out.mono ?_); rintro e w1 ⟨rfl, rfl⟩)
            | (go_at_call 14; (with_reducible refine HGF.out.mono ?_); rintro e w1 ⟨rfl, rfl⟩)
            | (go_at_call 21; (with_reducible refine (HPUT.out _ hB1).mono ?_); rintro e w2 ⟨A2, cp2, rfl, own2, b2⟩; have b2' := hB1.trans (b2.mono hB1.size); have f2 := Files.of_own own2; obtain ⟨x5, x6⟩ := HCB.out w2 b2')
            | (go_at_call 19; (with_reducible refine (HDROP.out _ b2').mono ?_); rintro e w3 ⟨A3, cp3, rfl, own3, b3⟩; have b3' := b2'.trans (b3.mono b2'.size); have f2' := (f2.below b3 (Nat.le_refl _)).more b3.size; have f3 := Files.of_own own3; obtain ⟨x7, x8⟩ := HCB.out w3 b3')
            | (go_at_call 44; (with_reducible refine (HRPUT.out _ b3').mono ?_); rintro e w4 ⟨A4, cp4, rfl, own4, b4⟩; have b4' := b3'.trans (b4.mono b3'.size); have f2'' := (f2'.below b4 (Nat.le_refl _)).more b4.size; have f3' := (f3.below b4 (Nat.le_refl _)).more b4.size; have f4 := Files.of_own own4)
            | (go_at_call 22; (with_reducible refine (HSX.out _ _ _ _ _ f2'' f4).mono ?_); rintro e w5 ⟨rfl, b5⟩; have b5' := b4'.trans (b5.mono b4'.size); have f3'' := (f3'.below b5 (Nat.le_refl _)).more b5.size; have f25 := (f2''.below b5 (Nat.le_refl _)).more b5.size)
            | (go_at_call 45; (with_reducible refine (HRDROP.out _ b5').mono ?_); rintro e w6 ⟨A6, cp6, rfl, own6, b6⟩; have b6' := b5'.trans (b6.mono b5'.size); have f3q := (f3''.below b6 (Nat.le_refl _)).more b6.size; have f26 := (f25.below b6 (Nat.le_refl _)).more b6.size; have f6 := Files.of_own own6)
            | (go_at_call 22; (with_reducible refine (HSY.out _ _ _ _ _ f3q f6).mono ?_); rintro e w7 ⟨rfl, b7⟩; have b7' := b6'.trans (b7.mono b6'.size); have f27 := (f26.below b7 (Nat.le_refl _)).more b7.size; obtain ⟨x9, x10⟩ := HCB.out w7 b7')
            | (go_at_call 39; (with_reducible refine (HGF1.out _ _ _ f27).mono ?_); rintro e w8 ⟨rfl, b8⟩; have b8' := b7'.trans (b8.mono b7'.size); have f28 := (f27.below b8 (Nat.le_refl _)).more b8.size; obtain ⟨x11, x12⟩ := HCB.out w8 b8')
            | (go_at_call 25; (with_reducible refine (HCK0.out _ _ _ f28).mono ?_); rintro e w9 ⟨rfl, b9⟩; have b9' := b8'.trans (b9.mono b8'.size); have f29 := (f28.below b9 (Nat.le_refl _)).more b9.size))
          go_loopw [11, 12, 13] (fun i _ _ wr => ∃ k : Nat, k ≤ l.length ∧ i = .int .i64 k ∧ Hid (Files wr wr.heap.size A2 X) ∧ Below W0.heap.size W0 wr) (fun i _ _ _ => l.length - (intOf i).toNat)
          case atStart => exact ⟨0, by omega, rfl, Lib.hid f29, b9'⟩
          case round =>
            clear b9' b9 f29 b8' b8 f28 b7' b7 f27 b6' b6 f26 b5' b5 f25 b4 b4' b3 b3' b2 b2' f2 f2' f2'' f3 f3' f3'' f3q f4 f6 own2 own3 own4 own6 x1 x2 x3 x4 x5 x6 x7 x8 x9 x10 x11 x12
            obtain ⟨k, hk, rfl, fX, hB⟩ := hrel
            have hsz := hB.size
            by_cases hlt : k < l.length
            · obtain ⟨a, rfl, hab, hc⟩ := HF0.out (by omega)
              obtain ⟨c1, c2⟩ := hc k l[k] (List.getElem?_eq_getElem hlt)
              have hmem : l[k] ∈ l := List.getElem_mem hlt
              obtain ⟨g, hg⟩ : ∃ g, g = l[k] := ⟨_, rfl⟩
              rw [← hg] at c1 c2 hmem
              have hall : ∀ w', Below W0.heap.size W0 w' → w'.cell? (a.add (k * 2)) = some (.string g.1) ∧ w'.cell? ⟨(a.add (k * 2)).block, (a.add (k * 2)).off + 1, none⟩ = some (.string g.2) ∧ w'.cell? ⟨w.heap.size, 0, none⟩ = some (.string f.1) ∧ w'.cell? ⟨w.heap.size, 1, none⟩ = some (.string f.2) := fun w' hb =>
                ⟨(hb.cell (p := a.add (k * 2)) (by rw [add_block]; omega)).trans c1, (hb.cell (p := ⟨(a.add (k * 2)).block, (a.add (k * 2)).off + 1, none⟩) (by show (a.add (k * 2)).block < _; rw [add_block]; omega)).trans c2, (HCB.out w' hb).1, (HCB.out w' hb).2⟩
              obtain ⟨d1, d2, y1, y2⟩ := hall wr hB
              have HALL := Lib.hid hall
              have hgq := HGG.out g hmem A2 cp2 wr fX.out
              have i1 : (0 : Int) ≤ (k : Int) := by omega
              have i2 : (k : Int) < (l.length : Int) := by omega
              clear c1 c2 hc hg hall hmem
              by_cases he : g.1 = f.1
              · rw [if_pos he] at hgq
                have HGQ := Lib.hid hgq
                have e1 : g.1.toList = f.1.toList := by rw [he]
                have e2 : (g.1.toList != f.1.toList) = false := by rw [e1]; simp
                clear hgq he
                go_wp2_with (go_at_call 39; (with_reducible refine HGQ.out.mono ?_); rintro e w10 ⟨rfl, b10⟩; have b10' := hB.trans (b10.mono hsz); have f10 := (fX.out.below b10 (Nat.le_refl _)).more b10.size; obtain ⟨z1, z2, z3, z4⟩ := HALL.out w10 b10')
                go_quiet (fail)
                have f11 : Hid (Files (w10.drewN nq) (w10.drewN nq).heap.size A2 X) := Lib.hid f10
                have hB11 := below_drewN b10' nq
                generalize w10.drewN nq = W3 at *
                go_wp2_with fail
                go_roundw
                case rel => exact ⟨k + 1, by omega, by go_num, f11, hB11⟩
                case measure => simp [intOf]; omega
              · rw [if_neg he] at hgq
                have HGQ := Lib.hid hgq
                have e1 : ¬ g.1.toList = f.1.toList := fun h => he (toList_inj h)
                have e2 : (g.1.toList != f.1.toList) = true := bne_iff_ne.2 e1
                clear hgq he
                go_wp2_with (go_at_call 39; (with_reducible refine HGQ.out.mono ?_); rintro e w10 ⟨rfl, b10⟩; have b10' := hB.trans (b10.mono hsz); have f10 := (fX.out.below b10 (Nat.le_refl _)).more b10.size; obtain ⟨z1, z2, z3, z4⟩ := HALL.out w10 b10')
                go_quiet (fail)
                have f11 : Hid (Files (w10.drewN nq) (w10.drewN nq).heap.size A2 X) := Lib.hid f10
                have hB11 := below_drewN b10' nq
                generalize w10.drewN nq = W3 at *
                go_wp2_with fail
                go_roundw
                case rel => exact ⟨k + 1, by omega, by go_num, f11, hB11⟩
                case measure => simp [intOf]; omega
            · go_wp2_with (go_at_call 16; (with_reducible refine (fixed_any _).mono ?_); rintro e w11 ⟨rfl, b11⟩)
              go_ret
              exact ⟨rfl, hBw.trans ((hB.trans (b11.mono hsz)).mono (by omega))⟩
end Go.Proofs.YtjpaajpjajoijaaDoor
