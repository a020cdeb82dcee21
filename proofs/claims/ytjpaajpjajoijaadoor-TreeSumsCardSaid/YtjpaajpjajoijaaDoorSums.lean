/- The law TreeSums, walked. -/
import Derived.Test.YtjpaajpjajoijaaDoorRSum
import Derived.Test.YtjpaajpjajoijaaDoorEqD
import Derived.Test.YtjpaajpjajoijaaDoorPut
import Derived.Test.YtjpaajpjajoijaaDoorFixed
namespace Go.Proofs.YtjpaajpjajoijaaDoor
set_option linter.unusedVariables false
open Go.RowKit
theorem sumV_bytes (l : List FileB) : ∃ D, sumV l = .agg D ∧ Bytes32 D := by
  unfold sumV
  split
  · exact bytes_D8 _
  · exact ⟨_, rfl, bytes_zb⟩
set_option maxHeartbeats 4000000 in
set_option maxRecDepth 100000 in
theorem treeSums_any (l : List FileB) (A1 : Option Addr) (c1 : Nat) (m : List FileB) (A2 : Option Addr) (c2 : Nat) (w : World)
    (hF : Files w w.heap.size A1 l) (hn : l.length ≤ 4611686018427387904) (hs : ∀ f ∈ l, f.1.size ≤ maxLen ∧ f.2.size ≤ maxLen)
    (hG : Files w w.heap.size A2 m) (hm : m.length ≤ 4611686018427387904) (ht : ∀ f ∈ m, f.1.size ≤ maxLen ∧ f.2.size ≤ maxLen) (hp : Pow10 w) :
    Calls Tryd.prog 4 #[.slice A1 l.length c1, .slice A2 m.length c2] w fun e w' => e = .returned (.bool true) ∧ Below w.heap.size w w' := by
  have hg : Calls Tryd.prog 14 #[.slice A1 l.length c1] w fun e w' => e = .returned (.bool (greatL l)) ∧ w = w' := (great_any l A1 c1 w hF hn hs).mono fun e w' h => ⟨h.1, h.2.symm⟩
  have hg2 : Calls Tryd.prog 14 #[.slice A2 m.length c2] w fun e w' => e = .returned (.bool (greatL m)) ∧ w = w' := (great_any m A2 c2 w hG hm ht).mono fun e w' h => ⟨h.1, h.2.symm⟩
  cases hgr : greatL l with
  | true =>
    rw [hgr] at hg
    have HG := Lib.hid hg
    clear hg hgr hF hs hG hg2 ht
    go_enter Tryd.func4, Tryd.ntmps4
    go_wp2_with (first
      | (go_at_call 14; (with_reducible refine HG.out.mono ?_); rintro e w1 ⟨rfl, rfl⟩)
      | (go_at_call 16; (with_reducible refine (fixed_any _).mono ?_); rintro e w2 ⟨rfl, b2⟩))
    go_ret
    exact ⟨rfl, b2⟩
  | false =>
    rw [hgr] at hg
    have HG := Lib.hid hg
    obtain ⟨g1, g2⟩ := great_not hgr
    clear hg hgr hs
    cases hgr2 : greatL m with
    | true =>
      rw [hgr2] at hg2
      have HG2 := Lib.hid hg2
      clear hg2 hgr2 hF hG ht g2
      go_enter Tryd.func4, Tryd.ntmps4
      go_wp2_with (first
        | (go_at_call 14; (with_reducible refine HG.out.mono ?_); rintro e w1 ⟨rfl, rfl⟩)
        | (go_at_call 14; (with_reducible refine HG2.out.mono ?_); rintro e w1 ⟨rfl, rfl⟩)
        | (go_at_call 16; (with_reducible refine (fixed_any _).mono ?_); rintro e w2 ⟨rfl, b2⟩))
      go_ret
      exact ⟨rfl, b2⟩
    | false =>
      rw [hgr2] at hg2
      have HG2 := Lib.hid hg2
      obtain ⟨g3, g4⟩ := great_not hgr2
      clear hg2 hgr2 ht
      have hsl : Small l := ⟨by omega, g2⟩
      have hsm : Small m := ⟨by omega, g4⟩
      have hfl := fun w' (hb : Below w.heap.size w w') => (hF.below hb (Nat.le_refl _)).more hb.size
      have hfm := fun w' (hb : Below w.heap.size w w') => (hG.below hb (Nat.le_refl _)).more hb.size
      have ha := fun w' hb => tsum_any l A1 c1 w' (hfl w' hb) hsl (by omega) (hp.below hb)
      have hra := fun w' hb => rsum05_any l A1 c1 w' (hfl w' hb) hsl (by omega)
      have hb' := fun w' hb => tsum_any m A2 c2 w' (hfm w' hb) hsm (by omega) (hp.below hb)
      have hrb := fun w' hb => rsum05_any m A2 c2 w' (hfm w' hb) hsm (by omega)
      have hsame := fun w' hb => same_any l m A1 A2 c1 c2 w' (hfl w' hb) (hfm w' hb) (by omega) (by omega)
      obtain ⟨Da, hDa, ba⟩ := sumV_bytes l
      obtain ⟨Db, hDb, bb⟩ := sumV_bytes m
      have heq : sameL l m = true → Db = Da := fun h => by
        have := sameL_eq h
        subst this
        rw [hDa] at hDb
        injection hDb with h
        exact h.symm
      simp only [hDa] at ha hra
      simp only [hDb] at hb' hrb
      obtain ⟨q, hq⟩ : ∃ q, q = sameL l m := ⟨_, rfl⟩
      simp only [← hq] at hsame heq
      have HA := Lib.hid ha
      have HRA := Lib.hid hra
      have HSAME := Lib.hid hsame
      have hea := eq39 Da ba
      have heb := eq39 Db bb
      have HEA := Lib.hid hea
      have HB := Lib.hid hb'
      have HRB := Lib.hid hrb
      have HEB := Lib.hid heb
      cases q with
      | true =>
        have hdd := heq rfl
        subst hdd
        clear ha hra hb' hrb hsame hfl hfm hF hG g2 g4 hsl hsm hDa hDb ba bb heq hq hea heb
        have b0 := Below.refl w.heap.size w
        go_enter Tryd.func4, Tryd.ntmps4
        go_wp2_with (first
          | (go_at_call 14; (with_reducible refine HG.out.mono ?_); rintro e w1 ⟨rfl, rfl⟩)
          | (go_at_call 14; (with_reducible refine HG2.out.mono ?_); rintro e w1 ⟨rfl, rfl⟩)
          | (go_at_call 23; (with_reducible refine (HA.out _ b0).mono ?_); rintro e w1 ⟨rfl, b1⟩)
          | (go_at_call 24; (with_reducible refine (HRA.out _ b1).mono ?_); rintro e w2 ⟨rfl, b2⟩; have b2' := b1.trans (b2.mono b1.size); have he2 := HEA.out w2)
          | (go_at_call 23; (with_reducible refine (HB.out _ b2').mono ?_); rintro e w3 ⟨rfl, b3⟩; have b3' := b2'.trans (b3.mono b2'.size))
          | (go_at_call 24; (with_reducible refine (HRB.out _ b3').mono ?_); rintro e w4 ⟨rfl, b4⟩; have b4' := b3'.trans (b4.mono b3'.size); have he4 := HEB.out w4)
          | (go_at_call 22; (with_reducible refine (HSAME.out _ b4').mono ?_); rintro e w5 ⟨rfl, b5⟩; have b5' := b4'.trans (b5.mono b4'.size))
          | (go_at_call 23; (with_reducible refine (HA.out _ b5').mono ?_); rintro e w6 ⟨rfl, b6⟩; have b6' := b5'.trans (b6.mono b5'.size))
          | (go_at_call 23; (with_reducible refine (HB.out _ b6').mono ?_); rintro e w7 ⟨rfl, b7⟩; have b7' := b6'.trans (b7.mono b6'.size); have he7 := HEA.out w7)
          | (go_at_call 16; (with_reducible refine (fixed_any _).mono ?_); rintro e w9 ⟨rfl, b9⟩))
        go_ret
        exact ⟨rfl, b7'.trans (b9.mono b7'.size)⟩
      | false =>
        clear ha hra hb' hrb hsame hfl hfm hF hG g2 g4 hsl hsm hDa hDb ba bb heq hq hea heb
        have b0 := Below.refl w.heap.size w
        go_enter Tryd.func4, Tryd.ntmps4
        go_wp2_with (first
          | (go_at_call 14; (with_reducible refine HG.out.mono ?_); rintro e w1 ⟨rfl, rfl⟩)
          | (go_at_call 14; (with_reducible refine HG2.out.mono ?_); rintro e w1 ⟨rfl, rfl⟩)
          | (go_at_call 23; (with_reducible refine (HA.out _ b0).mono ?_); rintro e w1 ⟨rfl, b1⟩)
          | (go_at_call 24; (with_reducible refine (HRA.out _ b1).mono ?_); rintro e w2 ⟨rfl, b2⟩; have b2' := b1.trans (b2.mono b1.size); have he2 := HEA.out w2)
          | (go_at_call 23; (with_reducible refine (HB.out _ b2').mono ?_); rintro e w3 ⟨rfl, b3⟩; have b3' := b2'.trans (b3.mono b2'.size))
          | (go_at_call 24; (with_reducible refine (HRB.out _ b3').mono ?_); rintro e w4 ⟨rfl, b4⟩; have b4' := b3'.trans (b4.mono b3'.size); have he4 := HEB.out w4)
          | (go_at_call 22; (with_reducible refine (HSAME.out _ b4').mono ?_); rintro e w5 ⟨rfl, b5⟩; have b5' := b4'.trans (b5.mono b4'.size))
          | (go_at_call 16; (with_reducible refine (fixed_any _).mono ?_); rintro e w9 ⟨rfl, b9⟩))
        go_ret
        exact ⟨rfl, b5'.trans (b9.mono b5'.size)⟩
end Go.Proofs.YtjpaajpjajoijaaDoor
