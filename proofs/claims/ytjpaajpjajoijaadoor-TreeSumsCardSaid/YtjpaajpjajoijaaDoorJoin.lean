/- path.Join, path.Under. -/
import Derived.Test.YtjpaajpjajoijaaDoorCut
namespace Go.Proofs.YtjpaajpjajoijaaDoor
set_option linter.unusedVariables false
open Go.RowKit
/-- Two texts joined; the error's number. -/
def joinL (d s : List UInt8) : List UInt8 × Int :=
  if (!d.isEmpty && !okPath d) || !okPath s then ([], 1) else if d.isEmpty then (s, 0) else if 16 < (splitS d).length + (splitS s).length then ([], 6) else (d ++ 47 :: s, 0)
theorem okPath_joined {d s : List UInt8} (hd : okPath d = true) (hs : okPath s = true) : okPath (d ++ 47 :: s) = !decide (16 < (splitS d).length + (splitS s).length) := by
  unfold okPath
  rw [splitS_append, List.all_append, List.length_append]
  unfold okPath at hd hs
  rw [Bool.and_eq_true] at hd hs
  rw [hd.1, hs.1, Bool.eq_iff_iff]
  simp
theorem data_append3 (d s : ByteArray) : (d ++ ⟨#[47]⟩ ++ s).data.toList = d.data.toList ++ 47 :: s.data.toList := by
  simp
theorem isEmpty_data (s : ByteArray) : s.data.toList.isEmpty = s.toList.isEmpty := by rw [ByteArray.toList_eq]
/-- What is known of a text that is empty, and of one that is not, in the walk's forms. -/
theorem empty_forms {s : ByteArray} (h : s.toList.isEmpty = true) : s.toList = [] ∧ s = ⟨#[]⟩ := by
  have h1 := List.isEmpty_iff.1 h
  refine ⟨h1, ?_⟩
  rw [ByteArray.toList_eq] at h1
  apply ByteArray.ext
  apply Array.toList_inj.1
  rw [h1]
theorem full_forms {s : ByteArray} (h : s.toList.isEmpty = false) : ¬ s.toList = [] := fun h1 => by rw [h1] at h; cases h
set_option maxHeartbeats 1000000 in
set_option maxRecDepth 100000 in
theorem pjoin_any (d s : ByteArray) (w : World) (hd : d.size ≤ 300000) (hs : s.size ≤ 300000) :
    Calls Tryd.prog 28 #[.string d, .string s] w fun e w' => e = .returned (.tuple #[.string (mkB (joinL d.data.toList s.data.toList).1), .int .i64 (joinL d.data.toList s.data.toList).2]) ∧ Below w.heap.size w w' := by
  have hmd := fun w => pmay_any d w (by omega)
  have hms := fun w => pmay_any s w (by omega)
  have hmo := fun w => pmay_any (d ++ ⟨#[47]⟩ ++ s) w (by rw [ByteArray.size_append, ByteArray.size_append]; show d.size + 1 + s.size ≤ _; omega)
  rw [data_append3] at hmo
  have hj : joinL d.data.toList s.data.toList = joinL d.data.toList s.data.toList := rfl
  conv at hj => rhs; unfold joinL
  rw [isEmpty_data] at hj
  have hjo := fun h1 h2 => okPath_joined (d := d.data.toList) (s := s.data.toList) h1 h2
  have hmk := mkB_of (data_append3 d s)
  obtain ⟨X, hX⟩ : ∃ X, X = d.data.toList ++ 47 :: s.data.toList := ⟨_, rfl⟩
  rw [← hX] at hmk hmo hjo hj
  obtain ⟨J, hJ⟩ : ∃ J, J = joinL d.data.toList s.data.toList := ⟨_, rfl⟩
  rw [← hJ] at hj ⊢
  clear hX hJ
  cases c1 : d.toList.isEmpty with
  | true =>
    obtain ⟨d1, rfl⟩ := empty_forms c1
    cases ho : okPath s.data.toList with
    | false =>
      rw [ho] at hms hj
      rw [c1] at hj
      have HJ := Lib.hid hj
      have HS := Lib.hid hms
      clear hj hms hmd hmo hjo ho hmk
      go_enter Tryd.func28, Tryd.ntmps28
      go_wp2_with (go_at_call 27; (with_reducible refine (HS.out _).mono ?_); rintro e w2 ⟨rfl, b2⟩)
      go_ret2
      exact ⟨by rw [HJ.out]; rfl, b2⟩
    | true =>
      rw [ho] at hms hj
      rw [c1] at hj
      have HJ := Lib.hid hj
      have HS := Lib.hid hms
      clear hj hms hmd hmo hjo ho hmk
      go_enter Tryd.func28, Tryd.ntmps28
      go_wp2_with (go_at_call 27; (with_reducible refine (HS.out _).mono ?_); rintro e w2 ⟨rfl, b2⟩)
      go_ret2
      exact ⟨by rw [HJ.out]; simp [mkB_data], b2⟩
  | false =>
    have d1 := full_forms c1
    rw [c1] at hj
    cases hod : okPath d.data.toList with
    | false =>
      rw [hod] at hmd hj
      have HJ := Lib.hid hj
      have HD := Lib.hid hmd
      clear hj hms hmd hmo hjo hod hmk
      go_enter Tryd.func28, Tryd.ntmps28
      go_wp2_with (go_at_call 27; (with_reducible refine (HD.out _).mono ?_); rintro e w1 ⟨rfl, b1⟩)
      go_ret2
      exact ⟨by rw [HJ.out]; rfl, b1⟩
    | true =>
      rw [hod] at hmd hj hjo
      have HD := Lib.hid hmd
      clear hmd hod
      cases hos : okPath s.data.toList with
      | false =>
        rw [hos] at hms hj
        have HJ := Lib.hid hj
        have HS := Lib.hid hms
        clear hj hms hmo hjo hos hmk
        go_enter Tryd.func28, Tryd.ntmps28
        go_wp2_with (first | (go_at_call 27; (with_reducible refine (HD.out _).mono ?_); rintro e w1 ⟨rfl, b1⟩) | (go_at_call 27; (with_reducible refine (HS.out _).mono ?_); rintro e w2 ⟨rfl, b2⟩))
        go_ret2
        exact ⟨by rw [HJ.out]; rfl, b1.trans (b2.mono b1.size)⟩
      | true =>
        rw [hos] at hms hj hjo
        have hjo2 := hjo rfl rfl
        have HS := Lib.hid hms
        rw [hjo2] at hmo
        have q1 : (d.size : Int) + 1 ≤ 9223372036854775807 := by omega
        have q2 : d.size + 1 ≤ 9223372036854775807 := by omega
        have q3 : ¬ (9223372036854775807 < d.size + 1) := by omega
        clear hms hos hjo hjo2
        by_cases h16 : 16 < (splitS d.data.toList).length + (splitS s.data.toList).length
        · rw [decide_eq_true h16] at hmo
          rw [if_neg (by simp), if_neg (by simp), if_pos h16] at hj
          have HJ := Lib.hid hj
          have HO := Lib.hid hmo
          have HMK := Lib.hid hmk
          clear hj hmo hmk h16
          go_enter Tryd.func28, Tryd.ntmps28
          go_wp2_with (first | (go_at_call 27; (with_reducible refine (HD.out _).mono ?_); rintro e w1 ⟨rfl, b1⟩) | (go_at_call 27; (with_reducible refine (HS.out _).mono ?_); rintro e w2 ⟨rfl, b2⟩) | (go_at_call 27; (with_reducible refine (HO.out _).mono ?_); rintro e w3 ⟨rfl, b3⟩))
          go_ret2
          exact ⟨by rw [HJ.out]; rfl, (b1.trans (b2.mono b1.size)).trans (b3.mono (Nat.le_trans b1.size b2.size))⟩
        · rw [decide_eq_false h16] at hmo
          rw [if_neg (by simp), if_neg (by simp), if_neg h16] at hj
          have HJ := Lib.hid hj
          have HO := Lib.hid hmo
          have HMK := Lib.hid hmk
          clear hj hmo hmk h16
          go_enter Tryd.func28, Tryd.ntmps28
          go_wp2_with (first | (go_at_call 27; (with_reducible refine (HD.out _).mono ?_); rintro e w1 ⟨rfl, b1⟩) | (go_at_call 27; (with_reducible refine (HS.out _).mono ?_); rintro e w2 ⟨rfl, b2⟩) | (go_at_call 27; (with_reducible refine (HO.out _).mono ?_); rintro e w3 ⟨rfl, b3⟩))
          go_ret2
          exact ⟨by rw [HJ.out, HMK.out]; rfl, (b1.trans (b2.mono b1.size)).trans (b3.mono (Nat.le_trans b1.size b2.size))⟩
set_option maxHeartbeats 1000000 in
set_option maxRecDepth 100000 in
theorem punder_any (s d : ByteArray) (w : World) (hs : s.size ≤ 300000) (hd : d.size ≤ 300000) :
    Calls Tryd.prog 30 #[.string s, .string d] w fun e w' => e = .returned (.bool (underL s.data.toList d.data.toList)) ∧ Below w.heap.size w w' := by
  have hmd := fun w => pmay_any d w (by omega)
  have hms := fun w => pmay_any s w (by omega)
  have hpf := fun w => Tryd.strings_HasPrefix s (d ++ ⟨#[47]⟩) w
  have hdat : (d ++ ⟨#[47]⟩).data.toList = d.data.toList ++ [47] := by simp
  rw [hdat] at hpf
  have hu : underL s.data.toList d.data.toList = underL s.data.toList d.data.toList := rfl
  conv at hu => rhs; unfold underL
  have hde : (d.data.toList == []) = d.toList.isEmpty := by
    rw [ByteArray.toList_eq]
    cases d.data.toList <;> rfl
  rw [hde] at hu
  have hdir := underL_dir (s := s.data.toList) (dir := d.data.toList)
  obtain ⟨U, hU⟩ : ∃ U, U = underL s.data.toList d.data.toList := ⟨_, rfl⟩
  rw [← hU] at hu hdir ⊢
  unfold Go.Lib.hasPrefix at hpf
  obtain ⟨pf, hp⟩ : ∃ pf, pf = (d.data.toList ++ [47]).isPrefixOf s.data.toList := ⟨_, rfl⟩
  rw [← hp] at hu hpf
  have HPF := Lib.hid hpf
  clear hp hU hde hdat hpf
  cases hos : okPath s.data.toList with
  | false =>
    rw [hos] at hms hu
    have HU := Lib.hid hu
    have HS := Lib.hid hms
    clear hu hms hmd hos hdir
    go_enter Tryd.func30, Tryd.ntmps30
    go_wp2_with (go_at_call 27; (with_reducible refine (HS.out _).mono ?_); rintro e w1 ⟨rfl, b1⟩)
    go_ret
    exact ⟨by rw [HU.out]; rfl, b1⟩
  | true =>
    rw [hos] at hms hu
    have HS := Lib.hid hms
    clear hms hos
    cases c1 : d.toList.isEmpty with
    | true =>
      obtain ⟨d1, rfl⟩ := empty_forms c1
      rw [c1] at hu
      have HU := Lib.hid hu
      clear hu hmd hdir
      go_enter Tryd.func30, Tryd.ntmps30
      go_wp2_with (go_at_call 27; (with_reducible refine (HS.out _).mono ?_); rintro e w1 ⟨rfl, b1⟩)
      go_ret
      exact ⟨by rw [HU.out]; rfl, b1⟩
    | false =>
      have d1 := full_forms c1
      rw [c1] at hu
      have d2 : d.data.toList ≠ [] := by rw [← ByteArray.toList_eq]; exact d1
      cases hod : okPath d.data.toList with
      | false =>
        have hu2 : U = false := by
          cases hU2 : U with
          | false => rfl
          | true => have := hdir hU2 d2; rw [hod] at this; cases this
        rw [hod] at hmd
        have HU := Lib.hid hu2
        have HD := Lib.hid hmd
        clear hu hmd hdir hu2 hod d2
        go_enter Tryd.func30, Tryd.ntmps30
        go_wp2_with (first | (go_at_call 27; (with_reducible refine (HS.out _).mono ?_); rintro e w1 ⟨rfl, b1⟩) | (go_at_call 27; (with_reducible refine (HD.out _).mono ?_); rintro e w2 ⟨rfl, b2⟩))
        go_ret
        exact ⟨by rw [HU.out]; rfl, b1.trans (b2.mono b1.size)⟩
      | true =>
        rw [hod] at hmd
        have HU := Lib.hid hu
        have HD := Lib.hid hmd
        have q1 : (d.size : Int) + 1 ≤ 9223372036854775807 := by omega
        have q2 : d.size + 1 ≤ 9223372036854775807 := by omega
        have q3 : ¬ (9223372036854775807 < d.size + 1) := by omega
        clear hu hmd hdir hod d2
        go_enter Tryd.func30, Tryd.ntmps30
        go_wp2_with (first | (go_at_call 27; (with_reducible refine (HS.out _).mono ?_); rintro e w1 ⟨rfl, b1⟩) | (go_at_call 27; (with_reducible refine (HD.out _).mono ?_); rintro e w2 ⟨rfl, b2⟩) | (go_at_call 61; (with_reducible refine (HPF.out _).mono ?_); rintro e w3 ⟨rfl, rfl⟩))
        go_ret
        exact ⟨by rw [HU.out]; simp, b1.trans (b2.mono b1.size)⟩
end Go.Proofs.YtjpaajpjajoijaaDoor
