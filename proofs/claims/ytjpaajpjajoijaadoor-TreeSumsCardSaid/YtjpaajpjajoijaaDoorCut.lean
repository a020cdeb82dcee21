/- path.cut, Dir, Base, Ext, Join, Under. -/
import Derived.Test.YtjpaajpjajoijaaDoorPMay
import Derived.Deep.QuietTactic
import Derived.BigQuiet
import Derived.IntWalk
namespace Go.Proofs.YtjpaajpjajoijaaDoor
set_option linter.unusedVariables false
open Go.RowKit
/-- Bytes as a text. -/
def mkB (l : List UInt8) : ByteArray := ⟨l.toArray⟩
theorem mkB_data (s : ByteArray) : mkB s.data.toList = s := mk_data s
theorem mkB_of {r : ByteArray} {x : List UInt8} (h : r.data.toList = x) : mkB x = r := mk_of h
theorem data_mkB (l : List UInt8) : (mkB l).data.toList = l := by simp [mkB]
theorem size_mkB (l : List UInt8) : (mkB l).size = l.length := rfl
theorem toList_mkB (l : List UInt8) : (mkB l).toList = l := by rw [ByteArray.toList_eq, data_mkB]
theorem last_bridge (s : ByteArray) (c : UInt8) : ∀ k, k ≤ s.size → Go.Lib.lastIdx s (c.toNat : Int) k = Go.Lib.Pa.lastIdx s.data.toList c k
  | 0, _ => rfl
  | k + 1, h => by
    have hk : k < s.data.toList.length := h
    have e : s.data[k]! = s.data.toList[k] := by
      have h2 : k < s.data.size := h
      rw [getElem!_pos s.data k h2]
      rfl
    unfold Go.Lib.lastIdx Go.Lib.Pa.lastIdx
    rw [last_bridge s c k (by omega), e, List.getElem?_eq_getElem hk]
    by_cases hc : s.data.toList[k] = c
    · rw [if_pos (by rw [hc]), if_pos (by rw [hc])]
    · rw [if_neg (fun h => hc (UInt8.toNat_inj.1 (by omega))), if_neg (fun h => hc (Option.some.inj h))]
theorem last_any (s : ByteArray) (c : UInt8) (w : World) (hs : s.size ≤ 1000000) :
    Calls Tryd.prog 63 #[.string s, .int .u8 (c.toNat : Int)] w fun e w' => e = .returned (.int .i64 (Go.Lib.Pa.lastIndexByte s.data.toList c)) ∧ w' = w := by
  have := Tryd.strings_LastIndexByte s (c.toNat : Int) (by omega) w
  unfold Go.Lib.lastIndexByte at this
  rw [last_bridge s c s.size (Nat.le_refl _)] at this
  exact this
theorem dirL_length (l : List UInt8) : (dirL l).length ≤ l.length := by
  by_cases hp : okPath l = true
  · have hb := Go.Lib.Pa.lastIndexByte_bounds l 47
    by_cases h : Go.Lib.Pa.lastIndexByte l 47 = -1
    · rw [(dirL_last_none hp h).1]; simp
    · rw [(dirL_last_some hp (i := (Go.Lib.Pa.lastIndexByte l 47).toNat) (by omega)).1, List.length_take]; omega
  · rw [Bool.not_eq_true] at hp
    rw [(dirL_not hp).1]; simp
theorem baseL_length (l : List UInt8) : (baseL l).length ≤ l.length := by
  by_cases hp : okPath l = true
  · have hb := Go.Lib.Pa.lastIndexByte_bounds l 47
    by_cases h : Go.Lib.Pa.lastIndexByte l 47 = -1
    · rw [(dirL_last_none hp h).2]; omega
    · rw [(dirL_last_some hp (i := (Go.Lib.Pa.lastIndexByte l 47).toNat) (by omega)).2, List.length_drop]; omega
  · rw [Bool.not_eq_true] at hp
    rw [(dirL_not hp).2]; simp
set_option maxHeartbeats 1000000 in
set_option maxRecDepth 100000 in
theorem cut_any (s : ByteArray) (w : World) (hs : s.size ≤ 1000000) :
    Calls Tryd.prog 62 #[.string s] w fun e w' => e = .returned (.tuple #[.string (mkB (dirL s.data.toList)), .string (mkB (baseL s.data.toList))]) ∧ Below w.heap.size w w' := by
  have hm := fun w => pmay_any s w hs
  obtain ⟨D, hD⟩ : ∃ D, D = mkB (dirL s.data.toList) := ⟨_, rfl⟩
  obtain ⟨B, hB⟩ : ∃ B, B = mkB (baseL s.data.toList) := ⟨_, rfl⟩
  rw [← hD, ← hB]
  have HD := Lib.hid hD
  have HB := Lib.hid hB
  clear hD hB
  cases ho : okPath s.data.toList with
  | false =>
    rw [ho] at hm
    have HM := Lib.hid hm
    have h2 := Lib.hid (dirL_not ho)
    clear hm ho
    go_enter Tryd.func62, Tryd.ntmps62
    go_wp2_with (go_at_call 27; refine (HM.out _).mono ?_; rintro e w' ⟨rfl, hb⟩)
    go_ret2
    exact ⟨by rw [HD.out, HB.out, h2.out.1, h2.out.2]; rfl, hb⟩
  | true =>
    rw [ho] at hm
    have hl := fun w => last_any s 47 w hs
    have hbd := Go.Lib.Pa.lastIndexByte_bounds s.data.toList 47
    have h1 := dirL_last_none ho
    have h2 := fun i => dirL_last_some ho (i := i)
    obtain ⟨i, hi⟩ : ∃ i, i = Go.Lib.Pa.lastIndexByte s.data.toList 47 := ⟨_, rfl⟩
    rw [← hi] at hl hbd h1 h2
    have hsl : s.data.toList.length = s.size := rfl
    rw [hsl] at hbd
    obtain ⟨hb1, hb2⟩ := hbd
    have HM := Lib.hid hm
    have HL := Lib.hid hl
    have H1 := Lib.hid h1
    have H2 := Lib.hid h2
    clear hm ho hl h1 h2 hi hsl
    by_cases hneg : i < 0
    · have HI := Lib.hid (H1.out (by omega))
      go_enter Tryd.func62, Tryd.ntmps62
      go_wp2_with (first | (go_at_call 27; refine (HM.out _).mono ?_; rintro e w' ⟨rfl, hb⟩) | (go_at_call 63; refine (HL.out _).mono ?_; rintro e w' ⟨rfl, rfl⟩))
      go_ret2
      exact ⟨by rw [HD.out, HB.out, HI.out.1, HI.out.2, mkB_data]; rfl, hb⟩
    · obtain ⟨j, rfl⟩ : ∃ j : Nat, i = (j : Int) := ⟨i.toNat, by omega⟩
      have HI := Lib.hid (H2.out j rfl)
      have he1 : (s.extract 0 j).data.toList = s.data.toList.take j := by rw [Go.Lib.extract_data]; simp
      have he2 : (s.extract (j + 1) s.size).data.toList = s.data.toList.drop (j + 1) := Go.Lib.extract_to_end s (j + 1)
      have HE1 := Lib.hid he1
      have HE2 := Lib.hid he2
      clear he1 he2
      go_enter Tryd.func62, Tryd.ntmps62
      go_wp2_with (first | (go_at_call 27; refine (HM.out _).mono ?_; rintro e w' ⟨rfl, hb⟩) | (go_at_call 63; refine (HL.out _).mono ?_; rintro e w' ⟨rfl, rfl⟩))
      have q1 : (0 : Int) ≤ (j : Int) + 1 := by omega
      have q2 : (j : Int) + 1 ≤ (s.size : Int) := by omega
      have q3 : ((j : Int) + 1).toNat = j + 1 := by omega
      have q5 : (j : Int) ≤ (s.size : Int) := by omega
      have q4 : IntKind.i64.wrap ((j : Int) + 1) = (j : Int) + 1 := IntWalk.i64_in _ (by omega)
      go_quiet (fail)
      clear q4
      go_wp2
      go_ret2
      exact ⟨by rw [HD.out, HB.out, HI.out.1, HI.out.2, mkB_of HE1.out, mkB_of HE2.out]; rfl, below_drewN hb _⟩
theorem pdir_any (s : ByteArray) (w : World) (hs : s.size ≤ 1000000) :
    Calls Tryd.prog 32 #[.string s] w fun e w' => e = .returned (.string (mkB (dirL s.data.toList))) ∧ Below w.heap.size w w' := by
  have hc := fun w => cut_any s w hs
  obtain ⟨D, hD⟩ : ∃ D, D = mkB (dirL s.data.toList) := ⟨_, rfl⟩
  obtain ⟨B, hB⟩ : ∃ B, B = mkB (baseL s.data.toList) := ⟨_, rfl⟩
  rw [← hD, ← hB] at hc
  rw [← hD]
  have HC := Lib.hid hc
  clear hD hB hc
  go_enter Tryd.func32, Tryd.ntmps32
  go_wp2_with (go_at_call 62; refine (HC.out _).mono ?_; rintro e w' ⟨rfl, hb⟩)
  go_ret
  exact ⟨rfl, hb⟩
theorem pbase_any (s : ByteArray) (w : World) (hs : s.size ≤ 1000000) :
    Calls Tryd.prog 34 #[.string s] w fun e w' => e = .returned (.string (mkB (baseL s.data.toList))) ∧ Below w.heap.size w w' := by
  have hc := fun w => cut_any s w hs
  obtain ⟨D, hD⟩ : ∃ D, D = mkB (dirL s.data.toList) := ⟨_, rfl⟩
  obtain ⟨B, hB⟩ : ∃ B, B = mkB (baseL s.data.toList) := ⟨_, rfl⟩
  rw [← hD, ← hB] at hc
  rw [← hB]
  have HC := Lib.hid hc
  clear hD hB hc
  go_enter Tryd.func34, Tryd.ntmps34
  go_wp2_with (go_at_call 62; refine (HC.out _).mono ?_; rintro e w' ⟨rfl, hb⟩)
  go_ret
  exact ⟨rfl, hb⟩
set_option maxHeartbeats 1000000 in
theorem pext_any (s : ByteArray) (w : World) (hs : s.size ≤ 1000000) :
    Calls Tryd.prog 36 #[.string s] w fun e w' => e = .returned (.string (mkB (extL s.data.toList))) ∧ Below w.heap.size w w' := by
  have hc := fun w => pbase_any s w hs
  have hbl := baseL_length s.data.toList
  unfold extL
  obtain ⟨l, hl⟩ : ∃ l, l = baseL s.data.toList := ⟨_, rfl⟩
  rw [← hl] at hc hbl ⊢
  obtain ⟨B, hB⟩ : ∃ B, B = mkB l := ⟨_, rfl⟩
  rw [← hB] at hc
  have hBl : B.data.toList = l := by rw [hB, data_mkB]
  have hBs : B.size ≤ 1000000 := by
    have h1 : B.size = l.length := by rw [hB]; rfl
    have h2 : s.data.toList.length = s.size := rfl
    omega
  have hli := fun w => last_any B 46 w hBs
  have hbd := Go.Lib.Pa.lastIndexByte_bounds B.data.toList 46
  rw [hBl] at hli hbd
  obtain ⟨i, hi⟩ : ∃ i, i = Go.Lib.Pa.lastIndexByte l 46 := ⟨_, rfl⟩
  rw [← hi] at hli hbd ⊢
  have hsl : l.length = B.size := by rw [← hBl]; rfl
  rw [hsl] at hbd
  obtain ⟨hb1, hb2⟩ := hbd
  have HC := Lib.hid hc
  have HL := Lib.hid hli
  have HBL := Lib.hid hBl
  clear hl hB hi hsl hc hli hBl hbl
  by_cases hpos : 0 < i
  · obtain ⟨j, rfl⟩ : ∃ j : Nat, i = (j : Int) := ⟨i.toNat, by omega⟩
    have he : (B.extract j B.size).data.toList = l.drop j := by rw [Go.Lib.extract_to_end, HBL.out]
    rw [if_pos hpos]
    have HE := Lib.hid he
    have q5 : (j : Int) ≤ (B.size : Int) := by omega
    clear he
    go_enter Tryd.func36, Tryd.ntmps36
    go_wp2_with (first | (go_at_call 34; refine (HC.out _).mono ?_; rintro e w' ⟨rfl, hb⟩) | (go_at_call 63; refine (HL.out _).mono ?_; rintro e w' ⟨rfl, rfl⟩))
    go_ret
    exact ⟨by rw [Int.toNat_natCast, ← HE.out, mkB_data]; rfl, hb⟩
  · rw [if_neg hpos]
    go_enter Tryd.func36, Tryd.ntmps36
    go_wp2_with (first | (go_at_call 34; refine (HC.out _).mono ?_; rintro e w' ⟨rfl, hb⟩) | (go_at_call 63; refine (HL.out _).mono ?_; rintro e w' ⟨rfl, rfl⟩))
    go_ret
    exact ⟨rfl, hb⟩
end Go.Proofs.YtjpaajpjajoijaaDoor
