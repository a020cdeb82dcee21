/- The laws PathJoins, PathUnder, PathParts, PathAbove, walked. -/
import Derived.Test.YtjpaajpjajoijaaDoorAlive
namespace Go.Proofs.YtjpaajpjajoijaaDoor
set_option linter.unusedVariables false
open Go.RowKit
theorem joinL_ok {d s : List UInt8} (h : (joinL d s).2 = 0) : okPath (joinL d s).1 = true ∧ underL (joinL d s).1 d = true ∧ (joinL d s).1.length ≤ d.length + 1 + s.length := by
  unfold joinL at h ⊢
  by_cases h1 : ((!d.isEmpty && !okPath d) || !okPath s) = true
  · rw [if_pos h1] at h
    simp at h
  rw [if_neg h1] at h ⊢
  rw [Bool.or_eq_true, not_or, Bool.not_eq_true, Bool.not_eq_true, Bool.not_eq_false'] at h1
  obtain ⟨h2, h3⟩ := h1
  by_cases h4 : d.isEmpty = true
  · rw [if_pos h4] at h ⊢
    have : d = [] := List.isEmpty_iff.1 h4
    subst this
    exact ⟨h3, by unfold underL; rw [h3]; rfl, by simp⟩
  · rw [if_neg h4] at h ⊢
    rw [Bool.not_eq_true] at h4
    rw [h4] at h2
    simp at h2
    by_cases h5 : 16 < (splitS d).length + (splitS s).length
    · rw [if_pos h5] at h
      simp at h
    · rw [if_neg h5]
      have h6 := okPath_joined h2 h3
      rw [decide_eq_false h5] at h6
      refine ⟨h6, ?_, by simp; omega⟩
      unfold underL
      have h7 : (d ++ [47]).isPrefixOf (d ++ 47 :: s) = true := List.isPrefixOf_iff_prefix.2 ⟨s, by simp⟩
      rw [h6, h7]
      simp
theorem joinL_cut {s : List UInt8} (h : okPath s = true) : joinL (dirL s) (baseL s) = (s, 0) := by
  have hb := Go.Lib.Pa.lastIndexByte_bounds s 47
  by_cases h1 : Go.Lib.Pa.lastIndexByte s 47 = -1
  · obtain ⟨e1, e2⟩ := dirL_last_none h h1
    rw [e1, e2]
    unfold joinL
    rw [h]
    rfl
  · have hi : Go.Lib.Pa.lastIndexByte s 47 = ((Go.Lib.Pa.lastIndexByte s 47).toNat : Nat) := by omega
    obtain ⟨i, hie⟩ : ∃ i, i = (Go.Lib.Pa.lastIndexByte s 47).toNat := ⟨_, rfl⟩
    rw [← hie] at hi
    obtain ⟨e1, e2⟩ := dirL_last_some h hi
    obtain ⟨hl, hsp⟩ := splitS_last_some s i hi
    obtain ⟨hp1, hp2⟩ := (okPath_iff s).1 h
    rw [hsp] at hp1 hp2
    have hd : okPath (s.take i) = true := (okPath_iff _).2 ⟨fun x hx => hp1 x (by simp [hx]), by rw [List.length_append] at hp2; omega⟩
    have hq := hp1 (s.drop (i + 1)) (by simp)
    have hsb : splitS (s.drop (i + 1)) = [s.drop (i + 1)] := splitS_plain _ (okPart_sign hq)
    have hbp : okPath (s.drop (i + 1)) = true := (okPath_iff _).2 (by rw [hsb]; exact ⟨fun x hx => by simp at hx; subst hx; exact hq, by simp⟩)
    have hne := okPath_ne hd
    have hs : s.take i ++ 47 :: s.drop (i + 1) = s := by
      have h5 := joinS_split s
      rw [hsp, joinS_snoc _ _ (splitS_ne _), joinS_split] at h5
      exact h5
    rw [e1, e2]
    unfold joinL
    rw [hd, hbp, if_neg (by simp), if_neg (by cases hx : s.take i with | nil => exact absurd hx hne | cons a b => simp), if_neg (by rw [hsb]; rw [List.length_append] at hp2; simp at hp2 ⊢; omega), hs]
theorem dirL_no {s : List UInt8} (h : okPath s = false) : extL s = [] := by
  unfold extL
  rw [(dirL_not h).2]
  rfl
set_option maxHeartbeats 1000000 in
set_option maxRecDepth 100000 in
theorem pathJoins_any (d s : ByteArray) (w : World) (hd : d.size ≤ maxLen) (hs : s.size ≤ maxLen) : Calls Tryd.prog 7 #[.string d, .string s] w fun e w' => e = .returned (.bool true) ∧ Below w.heap.size w w' := by
  unfold maxLen at hd hs
  by_cases h1 : 1500 < d.size
  · go_enter Tryd.func7, Tryd.ntmps7
    go_wp2_with (go_at_call 26; (with_reducible refine (alive_any _).mono ?_); rintro e w1 ⟨rfl, b1⟩)
    go_ret
    exact ⟨rfl, b1⟩
  by_cases h2 : 1500 < s.size
  · go_enter Tryd.func7, Tryd.ntmps7
    go_wp2_with (go_at_call 26; (with_reducible refine (alive_any _).mono ?_); rintro e w1 ⟨rfl, b1⟩)
    go_ret
    exact ⟨rfl, b1⟩
  have hp := fun w => pjoin_any d s w (by omega) (by omega)
  have hr := fun w => rjoin_any d s w (by omega) (by omega)
  have hok := joinL_ok (d := d.data.toList) (s := s.data.toList)
  obtain ⟨J, hJ⟩ : ∃ J, J = joinL d.data.toList s.data.toList := ⟨_, rfl⟩
  rw [← hJ] at hp hr hok
  clear hJ
  obtain ⟨x, n⟩ := J
  simp only at hp hr hok
  obtain ⟨X, hX⟩ : ∃ X, X = mkB x := ⟨_, rfl⟩
  have hXd : X.data.toList = x := by rw [hX, data_mkB]
  have hXs : X.size = x.length := by rw [hX]; rfl
  rw [← hX] at hp hr
  have HP := Lib.hid hp
  have HR := Lib.hid hr
  clear hX hp hr
  by_cases hn : n = 0
  · obtain ⟨o1, o2, o3⟩ := hok hn
    subst hn
    have e1 : d.data.toList.length = d.size := rfl
    have e2 : s.data.toList.length = s.size := rfl
    have hm := fun w => pmay_any X w (by omega)
    have hu := fun w => punder_any X d w (by omega) (by omega)
    rw [hXd, o1] at hm
    rw [hXd, o2] at hu
    have HM := Lib.hid hm
    have HU := Lib.hid hu
    clear hm hu hok o1 o2 o3 hXd hXs e1 e2
    go_enter Tryd.func7, Tryd.ntmps7
    go_wp2_with (first | (go_at_call 26; (with_reducible refine (alive_any _).mono ?_); rintro e w1 ⟨rfl, b1⟩) | (go_at_call 28; (with_reducible refine (HP.out _).mono ?_); rintro e w2 ⟨rfl, b2⟩) | (go_at_call 29; (with_reducible refine (HR.out _).mono ?_); rintro e w3 ⟨rfl, b3⟩) | (go_at_call 27; (with_reducible refine (HM.out _).mono ?_); rintro e w4 ⟨rfl, b4⟩) | (go_at_call 30; (with_reducible refine (HU.out _).mono ?_); rintro e w5 ⟨rfl, b5⟩))
    go_ret
    have c2 := b1.trans (b2.mono b1.size)
    have c3 := c2.trans (b3.mono c2.size)
    have c4 := c3.trans (b4.mono c3.size)
    exact ⟨rfl, c4.trans (b5.mono c4.size)⟩
  · have q1 : (n != 0) = true := bne_iff_ne.2 hn
    clear hok hXd hXs hn
    go_enter Tryd.func7, Tryd.ntmps7
    go_wp2_with (first | (go_at_call 26; (with_reducible refine (alive_any _).mono ?_); rintro e w1 ⟨rfl, b1⟩) | (go_at_call 28; (with_reducible refine (HP.out _).mono ?_); rintro e w2 ⟨rfl, b2⟩) | (go_at_call 29; (with_reducible refine (HR.out _).mono ?_); rintro e w3 ⟨rfl, b3⟩))
    go_ret
    have c2 := b1.trans (b2.mono b1.size)
    exact ⟨by simp, c2.trans (b3.mono c2.size)⟩
set_option maxHeartbeats 1000000 in
set_option maxRecDepth 100000 in
theorem pathUnder_any (s d : ByteArray) (w : World) (hs : s.size ≤ maxLen) (hd : d.size ≤ maxLen) : Calls Tryd.prog 8 #[.string s, .string d] w fun e w' => e = .returned (.bool true) ∧ Below w.heap.size w w' := by
  unfold maxLen at hd hs
  by_cases h1 : 1500 < s.size
  · go_enter Tryd.func8, Tryd.ntmps8
    go_wp2_with (go_at_call 26; (with_reducible refine (alive_any _).mono ?_); rintro e w1 ⟨rfl, b1⟩)
    go_ret
    exact ⟨rfl, b1⟩
  by_cases h2 : 1500 < d.size
  · go_enter Tryd.func8, Tryd.ntmps8
    go_wp2_with (go_at_call 26; (with_reducible refine (alive_any _).mono ?_); rintro e w1 ⟨rfl, b1⟩)
    go_ret
    exact ⟨rfl, b1⟩
  have hp := fun w => punder_any s d w (by omega) (by omega)
  have hr := fun w => runder_any s d w (by omega)
  have hself := fun w => punder_any s s w (by omega) (by omega)
  rw [underL_self] at hself
  obtain ⟨b, hb⟩ : ∃ b, b = underL s.data.toList d.data.toList := ⟨_, rfl⟩
  have hbs : d = s → b = false := fun h => by rw [hb, h, underL_self]
  rw [← hb] at hp hr
  have HP := Lib.hid hp
  have HR := Lib.hid hr
  have HS := Lib.hid hself
  clear hp hr hself hb
  by_cases hds : d = s
  · have := hbs hds
    subst this
    subst hds
    go_enter Tryd.func8, Tryd.ntmps8
    go_wp2_with (first | (go_at_call 26; (with_reducible refine (alive_any _).mono ?_); rintro e w1 ⟨rfl, b1⟩) | (go_at_call 31; (with_reducible refine (HR.out _).mono ?_); rintro e w3 ⟨rfl, b3⟩) | (go_at_call 30; (with_reducible refine (HP.out _).mono ?_)))
    rintro e w2 ⟨rfl, b2⟩
    go_wp2_with (first | (go_at_call 31; (with_reducible refine (HR.out _).mono ?_); rintro e w3 ⟨rfl, b3⟩) | (go_at_call 30; (with_reducible refine (HP.out _).mono ?_)))
    rintro e w4 ⟨rfl, b4⟩
    go_wp2
    go_ret
    have c2 := b1.trans (b2.mono b1.size)
    have c3 := c2.trans (b3.mono c2.size)
    exact ⟨by simp, c3.trans (b4.mono c3.size)⟩
  · clear hbs
    go_enter Tryd.func8, Tryd.ntmps8
    go_wp2_with (first | (go_at_call 26; (with_reducible refine (alive_any _).mono ?_); rintro e w1 ⟨rfl, b1⟩) | (go_at_call 31; (with_reducible refine (HR.out _).mono ?_); rintro e w3 ⟨rfl, b3⟩) | (go_at_call 30; (with_reducible refine (HP.out _).mono ?_); rintro e w2 ⟨rfl, b2⟩) | (go_at_call 30; (with_reducible refine (HS.out _).mono ?_); rintro e w4 ⟨rfl, b4⟩))
    go_ret
    have c2 := b1.trans (b2.mono b1.size)
    have c3 := c2.trans (b3.mono c2.size)
    exact ⟨by simp, c3.trans (b4.mono c3.size)⟩
end Go.Proofs.YtjpaajpjajoijaaDoor
