/- The laws PathParts, PathAbove, walked. -/
import Derived.Test.YtjpaajpjajoijaaDoorLaws
namespace Go.Proofs.YtjpaajpjajoijaaDoor
set_option linter.unusedVariables false
open Go.RowKit
set_option maxHeartbeats 2000000 in
set_option maxRecDepth 100000 in
theorem pathParts_any (s : ByteArray) (w : World) (hs : s.size ≤ maxLen) : Calls Tryd.prog 9 #[.string s] w fun e w' => e = .returned (.bool true) ∧ Below w.heap.size w w' := by
  unfold maxLen at hs
  by_cases h1 : 2000 < s.size
  · go_enter Tryd.func9, Tryd.ntmps9
    go_wp2_with (go_at_call 26; (with_reducible refine (alive_any _).mono ?_); rintro e w1 ⟨rfl, b1⟩)
    go_ret
    exact ⟨rfl, b1⟩
  have hd := fun w => pdir_any s w (by omega)
  have hb := fun w => pbase_any s w (by omega)
  have hx := fun w => pext_any s w (by omega)
  have rd := fun w => rdir_any s w (by omega)
  have rb := fun w => rbase_any s w (by omega)
  have rx := fun w => rext_any s w (by omega)
  have hm := fun w => rmay_any s w (by omega)
  have hdl := dirL_length s.data.toList
  have hbl := baseL_length s.data.toList
  have hno := fun h => dirL_not (l := s.data.toList) h
  have hxo := fun h => dirL_no (s := s.data.toList) h
  have hyes := fun h => joinL_cut (s := s.data.toList) h
  have hsl : s.data.toList.length = s.size := rfl
  obtain ⟨D, hD⟩ : ∃ D, D = mkB (dirL s.data.toList) := ⟨_, rfl⟩
  obtain ⟨B, hB⟩ : ∃ B, B = mkB (baseL s.data.toList) := ⟨_, rfl⟩
  obtain ⟨X, hX⟩ : ∃ X, X = mkB (extL s.data.toList) := ⟨_, rfl⟩
  have hDd : D.data.toList = dirL s.data.toList := by rw [hD, data_mkB]
  have hBd : B.data.toList = baseL s.data.toList := by rw [hB, data_mkB]
  have hXd : X.data.toList = extL s.data.toList := by rw [hX, data_mkB]
  rw [← hDd] at hdl hno hyes
  rw [← hBd] at hbl hno hyes
  rw [← hXd] at hxo
  rw [← hD] at hd rd
  rw [← hB] at hb rb
  rw [← hX] at hx rx
  have hDs : D.size ≤ 2000 := by have : D.data.toList.length = D.size := rfl; omega
  have hBs : B.size ≤ 2000 := by have : B.data.toList.length = B.size := rfl; omega
  have hj := fun w => pjoin_any D B w (by omega) (by omega)
  have A1 := Lib.hid hd
  have A2 := Lib.hid hb
  have A3 := Lib.hid hx
  have A4 := Lib.hid rd
  have A5 := Lib.hid rb
  have A6 := Lib.hid rx
  clear hd hb hx rd rb rx hD hB hX hDd hBd hXd hdl hbl hsl
  have emp : ∀ Y : ByteArray, Y.data.toList = [] → Y = ⟨#[]⟩ := fun Y h => by
    apply ByteArray.ext
    apply Array.toList_inj.1
    rw [h]
  cases ho : okPath s.data.toList with
  | false =>
    rw [ho] at hm hno hxo
    have e1 := emp D (hno rfl).1
    have e2 := emp B (hno rfl).2
    have e3 := emp X (hxo rfl)
    subst e1
    subst e2
    subst e3
    have HM := Lib.hid hm
    clear hm hno hxo hyes hj ho emp hDs hBs
    go_enter Tryd.func9, Tryd.ntmps9
    go_wp2_with (first | (go_at_call 26; (with_reducible refine (alive_any _).mono ?_); rintro e w1 ⟨rfl, b1⟩) | (go_at_call 32; (with_reducible refine (A1.out _).mono ?_)))
    rintro e w2 ⟨rfl, b2⟩
    replace b2 := b1.trans (b2.mono b1.size)
    go_wp2_with (first | (go_at_call 33; (with_reducible refine (A4.out _).mono ?_); rintro e w3 ⟨rfl, b3⟩) | (go_at_call 34; (with_reducible refine (A2.out _).mono ?_)))
    rintro e w4 ⟨rfl, b4⟩
    replace b3 := b2.trans (b3.mono b2.size)
    replace b4 := b3.trans (b4.mono b3.size)
    go_wp2_with (first | (go_at_call 35; (with_reducible refine (A5.out _).mono ?_); rintro e w5 ⟨rfl, b5⟩) | (go_at_call 36; (with_reducible refine (A3.out _).mono ?_)))
    rintro e w6 ⟨rfl, b6⟩
    replace b5 := b4.trans (b5.mono b4.size)
    replace b6 := b5.trans (b6.mono b5.size)
    go_wp2_with (first | (go_at_call 37; (with_reducible refine (A6.out _).mono ?_); rintro e w7 ⟨rfl, b7⟩) | (go_at_call 18; (with_reducible refine (HM.out _).mono ?_); rintro e w8 ⟨rfl, b8⟩) | (go_at_call 32; (with_reducible refine (A1.out _).mono ?_); rintro e w9 ⟨rfl, b9⟩) | (go_at_call 34; (with_reducible refine (A2.out _).mono ?_); rintro e w10 ⟨rfl, b10⟩) | (go_at_call 36; (with_reducible refine (A3.out _).mono ?_); rintro e w11 ⟨rfl, b11⟩))
    replace b7 := b6.trans (b7.mono b6.size)
    replace b8 := b7.trans (b8.mono b7.size)
    replace b9 := b8.trans (b9.mono b8.size)
    replace b10 := b9.trans (b10.mono b9.size)
    go_ret
    exact ⟨rfl, b10.trans (b11.mono b10.size)⟩
  | true =>
    rw [ho] at hm hyes
    have hy := hyes rfl
    have hj2 : ∀ w, Calls Tryd.prog 28 #[.string D, .string B] w fun e w' => e = .returned (.tuple #[.string s, .int .i64 0]) ∧ Below w.heap.size w w' := fun w => by
      have := hj w
      rw [hy] at this
      rwa [show mkB (s.data.toList, (0 : Int)).1 = s from mkB_data s] at this
    have HM := Lib.hid hm
    have HJ := Lib.hid hj2
    clear hm hno hxo hyes hj hj2 ho emp hDs hBs hy
    go_enter Tryd.func9, Tryd.ntmps9
    go_wp2_with (first | (go_at_call 26; (with_reducible refine (alive_any _).mono ?_); rintro e w1 ⟨rfl, b1⟩) | (go_at_call 32; (with_reducible refine (A1.out _).mono ?_)))
    rintro e w2 ⟨rfl, b2⟩
    replace b2 := b1.trans (b2.mono b1.size)
    go_wp2_with (first | (go_at_call 33; (with_reducible refine (A4.out _).mono ?_); rintro e w3 ⟨rfl, b3⟩) | (go_at_call 34; (with_reducible refine (A2.out _).mono ?_)))
    rintro e w4 ⟨rfl, b4⟩
    replace b3 := b2.trans (b3.mono b2.size)
    replace b4 := b3.trans (b4.mono b3.size)
    go_wp2_with (first | (go_at_call 35; (with_reducible refine (A5.out _).mono ?_); rintro e w5 ⟨rfl, b5⟩) | (go_at_call 36; (with_reducible refine (A3.out _).mono ?_)))
    rintro e w6 ⟨rfl, b6⟩
    replace b5 := b4.trans (b5.mono b4.size)
    replace b6 := b5.trans (b6.mono b5.size)
    go_wp2_with (first | (go_at_call 37; (with_reducible refine (A6.out _).mono ?_); rintro e w7 ⟨rfl, b7⟩) | (go_at_call 18; (with_reducible refine (HM.out _).mono ?_); rintro e w8 ⟨rfl, b8⟩) | (go_at_call 32; (with_reducible refine (A1.out _).mono ?_); rintro e w9 ⟨rfl, b9⟩) | (go_at_call 34; (with_reducible refine (A2.out _).mono ?_); rintro e w10 ⟨rfl, b10⟩) | (go_at_call 28; (with_reducible refine (HJ.out _).mono ?_); rintro e w11 ⟨rfl, b11⟩))
    replace b7 := b6.trans (b7.mono b6.size)
    replace b8 := b7.trans (b8.mono b7.size)
    replace b9 := b8.trans (b9.mono b8.size)
    replace b10 := b9.trans (b10.mono b9.size)
    go_ret
    exact ⟨by simp, b10.trans (b11.mono b10.size)⟩
/-- Has a text been met among the last k directories? -/
def metB (p : List (List UInt8)) (o : List UInt8) : Nat → Bool
  | 0 => false
  | k + 1 => metB p o k || (joinS (p.take (p.length - (k + 1))) == o)
theorem metB_iff (p : List (List UInt8)) (o : List UInt8) : ∀ k, metB p o k = true ↔ ∃ j, j < k ∧ joinS (p.take (p.length - (j + 1))) = o
  | 0 => by simp [metB]
  | k + 1 => by
    unfold metB
    rw [Bool.or_eq_true, metB_iff p o k, beq_iff_eq]
    constructor
    · rintro (⟨j, h1, h2⟩ | h)
      · exact ⟨j, by omega, h2⟩
      · exact ⟨k, by omega, h⟩
    · rintro ⟨j, h1, h2⟩
      by_cases e : j = k
      · subst e; exact .inr h2
      · exact .inl ⟨j, by omega, h2⟩
theorem metB_all {s o : List UInt8} (h : okPath s = true) : metB (splitS s) o (splitS s).length = underL s o := by
  rw [Bool.eq_iff_iff, metB_iff, underL_iff]
  constructor
  · rintro ⟨j, h1, h2⟩
    exact ⟨h, _, by omega, h2.symm⟩
  · rintro ⟨_, m, hm, rfl⟩
    exact ⟨(splitS s).length - (m + 1), by omega, by rw [show (splitS s).length - ((splitS s).length - (m + 1) + 1) = m from by omega]⟩
set_option maxHeartbeats 2000000 in
set_option maxRecDepth 100000 in
theorem pathAbove_any (s o : ByteArray) (w : World) (hs : s.size ≤ maxLen) (ho : o.size ≤ maxLen) : Calls Tryd.prog 10 #[.string s, .string o] w fun e w' => e = .returned (.bool true) ∧ Below w.heap.size w w' := by
  unfold maxLen at hs ho
  by_cases h1 : 1500 < s.size
  · go_enter Tryd.func10, Tryd.ntmps10
    go_wp2_with (go_at_call 26; (with_reducible refine (alive_any _).mono ?_); rintro e w1 ⟨rfl, b1⟩)
    go_ret
    exact ⟨rfl, b1⟩
  by_cases h2 : 1500 < o.size
  · go_enter Tryd.func10, Tryd.ntmps10
    go_wp2_with (go_at_call 26; (with_reducible refine (alive_any _).mono ?_); rintro e w1 ⟨rfl, b1⟩)
    go_ret
    exact ⟨rfl, b1⟩
  have hm := fun w => rmay_any s w (by omega)
  cases hok : okPath s.data.toList with
  | false =>
    rw [hok] at hm
    have HM := Lib.hid hm
    clear hm hok
    go_enter Tryd.func10, Tryd.ntmps10
    go_wp2_with (first | (go_at_call 26; (with_reducible refine (alive_any _).mono ?_); rintro e w1 ⟨rfl, b1⟩) | (go_at_call 18; (with_reducible refine (HM.out _).mono ?_); rintro e w2 ⟨rfl, b2⟩))
    go_ret
    exact ⟨rfl, b1.trans (b2.mono b1.size)⟩
  | true =>
    have hpd := fun w => parts_split s w (by omega)
    have hu := fun w => punder_any s o w (by omega) (by omega)
    have hua := fun (d : ByteArray) (h : d.size ≤ 300000) w => punder_any s d w (by omega) h
    have hmet := metB_all (o := o.data.toList) hok
    have hpi := (okPath_iff _).1 hok
    have hjl : ∀ k, (joinS ((splitS s.data.toList).take k)).length ≤ 1500 := fun k => by
      have h1 := joinS_length ((splitS s.data.toList).take k) ((splitS s.data.toList).drop k)
      rw [List.take_append_drop, joinS_split] at h1
      have h2 : s.data.toList.length = s.size := rfl
      omega
    have hund : ∀ m, m < (splitS s.data.toList).length → underL s.data.toList (joinS ((splitS s.data.toList).take m)) = true := fun m hm => (underL_iff _ _).2 ⟨hok, m, hm, rfl⟩
    have hst : s.data.toList = joinS (splitS s.data.toList) := (joinS_split _).symm
    have hne := splitS_ne s.data.toList
    rw [← hmet] at hu
    rw [hok] at hm
    obtain ⟨p, hp⟩ : ∃ p, p = splitS s.data.toList := ⟨_, rfl⟩
    rw [← hp] at hpd hu hpi hjl hund hst hne
    clear hmet hp hok
    obtain ⟨p1, p2⟩ := hpi
    have g0 : 0 < p.length := List.length_pos_iff.2 hne
    have hdt := fun m => dirL_take p1 p2 (m := m)
    have HM := Lib.hid hm
    have HPD := Lib.hid hpd
    have HU := Lib.hid hu
    have HUA := Lib.hid hua
    have HJL := Lib.hid hjl
    have HUND := Lib.hid hund
    have HST := Lib.hid hst
    have HDT := Lib.hid hdt
    have HP1 := Lib.hid p1
    clear hm hpd hu hua hjl hund hst hdt p1 hne
    go_enter Tryd.func10, Tryd.ntmps10
    go_wp2_with (first | (go_at_call 26; (with_reducible refine (alive_any _).mono ?_); rintro e w1 ⟨rfl, b1⟩) | (go_at_call 18; (with_reducible refine (HM.out _).mono ?_); rintro e w2 ⟨rfl, b2⟩))
    replace b2 := b1.trans (b2.mono b1.size)
    go_loopw [5, 6, 7] (fun a n m wr => ∃ (k : Nat) (A : ByteArray) (mb : Bool), k ≤ p.length ∧ n = .int .i64 k ∧ a = .string A ∧ m = .bool mb ∧ Hid (A.data.toList = joinS (p.take (p.length - k))) ∧ Hid (mb = metB p o.data.toList k) ∧ Below w.heap.size w wr) (fun _ n _ _ => p.length - (intOf n).toNat)
    case atStart => exact ⟨0, s, false, by omega, rfl, rfl, rfl, Lib.hid (by rw [Nat.sub_zero, List.take_length]; exact HST.out), Lib.hid rfl, b2⟩
    case round =>
      obtain ⟨k, A, mb, hk, rfl, rfl, rfl, hA, hmb, hB⟩ := hrel
      clear b1 b2
      by_cases hlt : k < p.length
      · have hAne : A.toList.isEmpty = false := by
          rw [ByteArray.toList_eq, hA.out]
          have h5 := joinS_ne (p := p.take (p.length - k)) (take_ne (by omega) g0) (fun x hx => HP1.out x (List.mem_of_mem_take hx))
          cases h6 : joinS (p.take (p.length - k)) with
          | nil => exact absurd h6 h5
          | cons a b => rfl
        have a1 := full_forms hAne
        have hAs : A.size ≤ 1500 := by
          have h7 := HJL.out (p.length - k)
          rw [← hA.out] at h7
          exact h7
        have hd := fun w => pdir_any A w (by omega)
        have hde : dirL A.data.toList = joinS (p.take (p.length - (k + 1))) := by
          rw [hA.out, show p.length - k = (p.length - (k + 1)) + 1 from by omega]
          exact HDT.out _ (by omega)
        obtain ⟨D, hD⟩ : ∃ D, D = mkB (dirL A.data.toList) := ⟨_, rfl⟩
        have hDd : D.data.toList = joinS (p.take (p.length - (k + 1))) := by rw [hD, data_mkB, hde]
        have hDs : D.size ≤ 1500 := by
          have h7 := HJL.out (p.length - (k + 1))
          rw [← hDd] at h7
          exact h7
        rw [← hD] at hd
        have hun := HUA.out D (by omega)
        rw [hDd, HUND.out _ (by omega)] at hun
        have hms : metB p o.data.toList (k + 1) = (metB p o.data.toList k || (D.toList == o.toList)) := by
          rw [ByteArray.toList_eq, ByteArray.toList_eq, hDd]; rfl
        have HD := Lib.hid hd
        have HUN := Lib.hid hun
        have HMS := Lib.hid hms
        have HDD := Lib.hid hDd
        clear hd hde hD hDd hun hms
        have q1 : ¬ (16 : Int) < (k : Int) + 1 := by omega
        cases mb with
        | true =>
          go_wp2_with (first | (go_at_call 32; (with_reducible refine (HD.out _).mono ?_); rintro e w3 ⟨rfl, b3⟩) | (go_at_call 30; (with_reducible refine (HUN.out _).mono ?_); rintro e w4 ⟨rfl, b4⟩))
          replace b3 := hB.trans (b3.mono hB.size)
          go_roundw
          case rel => exact ⟨k + 1, D, true, by omega, by go_num, rfl, rfl, HDD, Lib.hid (by rw [HMS.out, ← hmb.out]; rfl), b3.trans (b4.mono b3.size)⟩
          case measure => simp [intOf]; omega
        | false =>
          cases hDo : D.toList == o.toList with
          | true =>
            have d1 : D.toList = o.toList := beq_iff_eq.1 hDo
            have D1 := Lib.hid d1
            have hDe : D = o := by
              rw [ByteArray.toList_eq, ByteArray.toList_eq] at d1
              exact ByteArray.ext (Array.toList_inj.1 d1)
            rw [hDo] at HMS
            clear d1 D1 hDo
            subst hDe
            go_wp2_with (first | (go_at_call 32; (with_reducible refine (HD.out _).mono ?_); rintro e w3 ⟨rfl, b3⟩) | (go_at_call 30; (with_reducible refine (HUN.out _).mono ?_); rintro e w4 ⟨rfl, b4⟩))
            replace b3 := hB.trans (b3.mono hB.size)
            go_roundw
            case rel => exact ⟨k + 1, D, true, by omega, by go_num, rfl, by simp, HDD, Lib.hid (by rw [HMS.out]; simp), b3.trans (b4.mono b3.size)⟩
            case measure => simp [intOf]; omega
          | false =>
            have d1 : ¬ D.toList = o.toList := beq_eq_false_iff_ne.1 hDo
            have HDO := Lib.hid hDo
            go_wp2_with (first | (go_at_call 32; (with_reducible refine (HD.out _).mono ?_); rintro e w3 ⟨rfl, b3⟩) | (go_at_call 30; (with_reducible refine (HUN.out _).mono ?_); rintro e w4 ⟨rfl, b4⟩))
            replace b3 := hB.trans (b3.mono hB.size)
            go_roundw
            case rel => exact ⟨k + 1, D, false, by omega, by go_num, rfl, by simp, HDD, Lib.hid (by rw [HMS.out, ← hmb.out, HDO.out]; rfl), b3.trans (b4.mono b3.size)⟩
            case measure => simp [intOf]; omega
      · obtain rfl : k = p.length := by omega
        have hA0 := hA.out
        rw [Nat.sub_self, List.take_zero] at hA0
        have hAe : A = ⟨#[]⟩ := by
          apply ByteArray.ext
          apply Array.toList_inj.1
          rw [hA0]
          rfl
        have HU2 := HU.out
        rw [← hmb.out] at HU2
        have HUB := Lib.hid HU2
        subst hAe
        clear hA hA0 HU2
        go_wp2_with (first | (go_at_call 38; (with_reducible refine (HPD.out _).mono ?_); rintro e w3 ⟨g, cap, rfl, _, b3⟩) | (go_at_call 30; (with_reducible refine (HUB.out _).mono ?_); rintro e w4 ⟨rfl, b4⟩))
        replace b3 := hB.trans (b3.mono hB.size)
        go_ret
        exact ⟨by simp, b3.trans (b4.mono b3.size)⟩
end Go.Proofs.YtjpaajpjajoijaaDoor
