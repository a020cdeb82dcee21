/- The law TreeGets, walked. -/
import Derived.Test.YtjpaajpjajoijaaDoorGet
namespace Go.Proofs.YtjpaajpjajoijaaDoor
set_option linter.unusedVariables false
open Go.RowKit
theorem pathsL_len (l : List FileB) (d : ByteArray) : (pathsL l d).length ≤ l.length := by
  unfold pathsL
  split
  · have := List.length_filter_le (fun p : ByteArray => underL p.data.toList d.data.toList) (l.map (·.1))
    rw [List.length_map] at this
    exact this
  · simp
set_option maxHeartbeats 2000000 in
set_option maxRecDepth 100000 in
theorem treeGets_any (l : List FileB) (A : Option Addr) (c : Nat) (p d : ByteArray) (w : World) (hF : Files w w.heap.size A l) (hn : l.length ≤ 4611686018427387904) (hs : ∀ f ∈ l, f.1.size ≤ maxLen ∧ f.2.size ≤ maxLen) (hp : p.size ≤ maxLen) (hd : d.size ≤ maxLen) :
    Calls Tryd.prog 11 #[.slice A l.length c, .string p, .string d] w fun e w' => e = .returned (.bool true) ∧ Below w.heap.size w w' := by
  unfold maxLen at hp hd
  have hg := great_any l A c w hF hn hs
  cases hgr : greatL l with
  | true =>
    rw [hgr] at hg
    have HG := Lib.hid hg
    clear hg hgr hF hs
    go_enter Tryd.func11, Tryd.ntmps11
    go_wp2_with (first | (go_at_call 14; (with_reducible refine HG.out.mono ?_); rintro e w1 ⟨rfl, rfl⟩) | (go_at_call 16; (with_reducible refine (fixed_any _).mono ?_); rintro e w2 ⟨rfl, b2⟩))
    go_ret
    exact ⟨rfl, b2⟩
  | false =>
    rw [hgr] at hg
    have HG := Lib.hid hg
    obtain ⟨g1, g2⟩ := great_not hgr
    clear hg hgr hs
    by_cases h1 : 300 < p.size
    · clear hF g2
      go_enter Tryd.func11, Tryd.ntmps11
      go_wp2_with (first | (go_at_call 14; (with_reducible refine HG.out.mono ?_); rintro e w1 ⟨rfl, rfl⟩) | (go_at_call 16; (with_reducible refine (fixed_any _).mono ?_); rintro e w2 ⟨rfl, b2⟩))
      go_ret
      exact ⟨rfl, b2⟩
    by_cases h2 : 300 < d.size
    · clear hF g2
      go_enter Tryd.func11, Tryd.ntmps11
      go_wp2_with (first | (go_at_call 14; (with_reducible refine HG.out.mono ?_); rintro e w1 ⟨rfl, rfl⟩) | (go_at_call 16; (with_reducible refine (fixed_any _).mono ?_); rintro e w2 ⟨rfl, b2⟩))
      go_ret
      exact ⟨rfl, b2⟩
    have hsm : Small l := ⟨by omega, g2⟩
    have hfb := fun w1 (hb : Below w.heap.size w w1) => (hF.below hb (Nat.le_refl _)).more hb.size
    have hget := tget_any l p A c w hF hn
    have hrget := fun w1 hb => rget_any l p A c w1 (hfb w1 hb) hn
    have htp := fun w1 hb => tpaths_any l d A c w1 (hfb w1 hb) hsm (by omega)
    have hrp := fun w1 hb => rpaths_any l d A c w1 (hfb w1 hb) hsm (by omega)
    have hpl := pathsL_len l d
    obtain ⟨G, hG⟩ : ∃ G, G = getL l p := ⟨_, rfl⟩
    obtain ⟨P, hP⟩ : ∃ P, P = pathsL l d := ⟨_, rfl⟩
    rw [← hG] at hget hrget
    rw [← hP] at htp hrp hpl
    obtain ⟨X, hX⟩ : ∃ X, X = optB G := ⟨_, rfl⟩
    obtain ⟨q, hq⟩ : ∃ q, q = G.isSome := ⟨_, rfl⟩
    rw [← hX, ← hq] at hget hrget
    have HGET := Lib.hid hget
    have HRGET := Lib.hid hrget
    have HTP := Lib.hid htp
    have HRP := Lib.hid hrp
    have htx := fun A1 A2 c1 c2 w1 h1 h2 => texts_any P A1 A2 c1 c2 w1 h1 h2 (by omega)
    have HTX := Lib.hid htx
    clear hget hrget htp hrp htx hfb hsm hF g2 hX hq hG hP hpl
    go_enter Tryd.func11, Tryd.ntmps11
    go_wp2_with (first
      | (go_at_call 14; (with_reducible refine HG.out.mono ?_); rintro e w1 ⟨rfl, rfl⟩)
      | (go_at_call 39; (with_reducible refine HGET.out.mono ?_); rintro e w2 ⟨rfl, b2⟩)
      | (go_at_call 20; (with_reducible refine (HRGET.out _ b2).mono ?_); rintro e w3 ⟨rfl, rfl⟩)
      | (go_at_call 41; (with_reducible refine (HTP.out _ b2).mono ?_); rintro e w4 ⟨A1, cp1, rfl, own1, b4⟩; have t1 := Texts.of_own own1; replace b4 := b2.trans (b4.mono b2.size))
      | (go_at_call 42; (with_reducible refine (HRP.out _ b4).mono ?_); rintro e w5 ⟨A2, cp2, rfl, own2, b5⟩; have t2 := Texts.of_own own2; have t3 : Texts w5 w5.heap.size A1 P := (t1.below b5 (Nat.le_refl _)).mono b5.size; replace b5 := b4.trans (b5.mono b4.size))
      | (go_at_call 40; (with_reducible refine (HTX.out A1 A2 _ _ _ t3 t2).mono ?_); rintro e w6 ⟨rfl, b6⟩; replace b6 := b5.trans (b6.mono b5.size))
      | (go_at_call 16; (with_reducible refine (fixed_any _).mono ?_); rintro e w7 ⟨rfl, b7⟩; replace b7 := b6.trans (b7.mono b6.size)))
    go_ret
    exact ⟨by simp, b7⟩
end Go.Proofs.YtjpaajpjajoijaaDoor
