/- bloomeryref03.Base, Ext, Under. -/
import Derived.Test.YtjpaajpjajoijaaDoorRef
namespace Go.Proofs.YtjpaajpjajoijaaDoor
set_option linter.unusedVariables false
open Go.RowKit
set_option maxHeartbeats 1000000 in
set_option maxRecDepth 100000 in
theorem rbase_any (s : ByteArray) (w : World) (hs : s.size ≤ 1000000) :
    Calls Tryd.prog 35 #[.string s] w fun e w' => e = .returned (.string (mkB (baseL s.data.toList))) ∧ Below w.heap.size w w' := by
  have hm := fun w => rmay_any s w hs
  have hp := fun w => parts_split s w hs
  have hl := splitS_len s.data.toList
  have hne := splitS_ne s.data.toList
  have hdl : baseL s.data.toList = if okPath s.data.toList = true then (splitS s.data.toList).getLast?.getD [] else [] := rfl
  obtain ⟨D, hD⟩ : ∃ D, D = baseL s.data.toList := ⟨_, rfl⟩
  obtain ⟨p, hp0⟩ : ∃ p, p = splitS s.data.toList := ⟨_, rfl⟩
  rw [← hp0] at hp hl hne hdl
  rw [← hD] at hdl ⊢
  have e2 : s.data.toList.length = s.size := rfl
  have g1 : p.length ≤ 1000001 := by omega
  have g0 : 0 < p.length := List.length_pos_iff.2 hne
  clear hp0 hD e2 hl hne
  have HP := Lib.hid hp
  clear hp
  cases ho : okPath s.data.toList with
  | false =>
    rw [ho] at hm hdl
    rw [if_neg (by simp)] at hdl
    have HD := Lib.hid hdl
    have HM := Lib.hid hm
    clear ho hm hdl
    go_enter Tryd.func35, Tryd.ntmps35
    go_wp2_with (go_at_call 18; (with_reducible refine (HM.out _).mono ?_); rintro e w2 ⟨rfl, b2⟩)
    go_ret
    exact ⟨by rw [HD.out]; rfl, b2⟩
  | true =>
    rw [ho] at hm hdl
    rw [if_pos rfl] at hdl
    have HD := Lib.hid hdl
    have HM := Lib.hid hm
    clear ho hm hdl
    go_enter Tryd.func35, Tryd.ntmps35
    go_wp2_with (go_at_call 18; (with_reducible refine (HM.out _).mono ?_))
    rintro e w2 ⟨rfl, b2⟩
    go_wp2_with (go_at_call 38; (with_reducible refine (HP.out _).mono ?_))
    rintro e w1 ⟨g, cap, rfl, hown, b1⟩
    have hc : w1.cell? ⟨g, p.length - 1, none⟩ = some (.string (mkB (p[p.length - 1]'(by omega)))) := by
      have := hown.cellAt (p.length - 1) (by omega)
      rw [List.getElem?_eq_getElem (by rw [List.length_map]; omega), List.getElem_map] at this
      exact this
    have hlast : D = p[p.length - 1]'(by omega) := by
      rw [HD.out, List.getLast?_eq_getElem?, List.getElem?_eq_getElem (by omega), Option.getD_some]
    have HL := Lib.hid hlast
    have q1 : (0 : Int) ≤ (p.length : Int) - 1 := by omega
    have q2 : (p.length : Int) - 1 < (p.length : Int) := by omega
    have q3 : ((p.length : Int) - 1).toNat = p.length - 1 := by omega
    have q4 : (1 : Int) ≤ (p.length : Int) := by omega
    clear hown hlast
    go_wp2
    go_ret
    exact ⟨by rw [HL.out]; rfl, b2.trans (b1.mono b2.size)⟩
theorem extL_hit {l : List UInt8} {k : Nat} (h : Go.Lib.Pa.lastIdx l 46 (k + 1) = Go.Lib.Pa.lastIndexByte l 46) (hk : l[k]? = some 46) (h0 : 0 < k) : (if 0 < Go.Lib.Pa.lastIndexByte l 46 then l.drop (Go.Lib.Pa.lastIndexByte l 46).toNat else []) = l.drop k := by
  rw [← h]
  unfold Go.Lib.Pa.lastIdx
  rw [if_pos hk, if_pos (by omega)]
  rfl
theorem extL_miss {l : List UInt8} {k : Nat} (h : Go.Lib.Pa.lastIdx l 46 k = Go.Lib.Pa.lastIndexByte l 46) (h0 : k ≤ 1) : (if 0 < Go.Lib.Pa.lastIndexByte l 46 then l.drop (Go.Lib.Pa.lastIndexByte l 46).toNat else []) = [] := by
  have := Go.Lib.Pa.lastIdx_bounds l 46 k
  rw [← h, if_neg (by omega)]
set_option maxHeartbeats 1000000 in
set_option maxRecDepth 100000 in
theorem rext_any (s : ByteArray) (w : World) (hs : s.size ≤ 1000000) :
    Calls Tryd.prog 37 #[.string s] w fun e w' => e = .returned (.string (mkB (extL s.data.toList))) ∧ Below w.heap.size w w' := by
  have hc := fun w => rbase_any s w hs
  have hbl := baseL_length s.data.toList
  have he : extL s.data.toList = if 0 < Go.Lib.Pa.lastIndexByte (baseL s.data.toList) 46 then (baseL s.data.toList).drop (Go.Lib.Pa.lastIndexByte (baseL s.data.toList) 46).toNat else [] := rfl
  obtain ⟨X, hX⟩ : ∃ X, X = extL s.data.toList := ⟨_, rfl⟩
  rw [← hX] at he ⊢
  obtain ⟨l, hl⟩ : ∃ l, l = baseL s.data.toList := ⟨_, rfl⟩
  rw [← hl] at hc hbl he
  obtain ⟨B, hB⟩ : ∃ B, B = mkB l := ⟨_, rfl⟩
  rw [← hB] at hc
  have hBl : B.data.toList = l := by rw [hB, data_mkB]
  have hBs : B.size ≤ 1000000 := by
    have h1 : B.size = l.length := by rw [hB]; rfl
    have h2 : s.data.toList.length = s.size := rfl
    omega
  have HC := Lib.hid hc
  have HE := Lib.hid he
  have HBL := Lib.hid hBl
  clear hl hB hc hBl hbl he hX
  go_enter Tryd.func37, Tryd.ntmps37
  go_wp2_with (go_at_call 35; (with_reducible refine (HC.out _).mono ?_); rintro e w' ⟨rfl, hb⟩)
  go_loop [4] (fun i => ∃ k : Nat, k ≤ B.size ∧ i = .int .i64 ((k : Int) - 1) ∧ Hid (Go.Lib.Pa.lastIdx l 46 k = Go.Lib.Pa.lastIndexByte l 46)) (fun i => (intOf i + 1).toNat)
  case atStart => exact ⟨B.size, Nat.le_refl _, rfl, Lib.hid (by unfold Go.Lib.Pa.lastIndexByte; rw [← HBL.out]; rfl)⟩
  case round =>
    obtain ⟨k, hk, rfl, hh⟩ := hrel
    by_cases h1 : 1 < k
    · obtain ⟨j, rfl⟩ : ∃ j, k = j + 1 := ⟨k - 1, by omega⟩
      have hjl : j < l.length := by rw [← HBL.out]; exact hk
      have hat : l[j]? = some (B[j]'(by omega)) := by
        rw [← HBL.out]
        exact List.getElem?_eq_getElem _
      have hcast : ((j + 1 : Nat) : Int) - 1 = (j : Int) := by omega
      rw [hcast]
      have e37 : intOf (.int .i64 (j : Int)) = j := rfl
      by_cases h46 : B[j]'(by omega) = 46
      · rw [h46] at hat
        have hx := extL_hit hh.out hat (by omega)
        rw [← HE.out] at hx
        have hex : (B.extract j B.size).data.toList = l.drop j := by rw [Go.Lib.extract_to_end, HBL.out]
        have HX := Lib.hid hx
        have HEX := Lib.hid hex
        have t46 : ((B[j].toNat : Int) == 46) = true := by rw [h46]; rfl
        have q1 : (0 : Int) < (j : Int) := by omega
        clear h46 hat hx hex hjl
        go_wp2
        go_ret
        exact ⟨by rw [HX.out, mkB_of HEX.out]; rfl, hb⟩
      · have t46 : ((B[j].toNat : Int) == 46) = false := by
          rw [beq_eq_false_iff_ne]
          intro h
          exact h46 (UInt8.toNat_inj.1 (by have : (46 : UInt8).toNat = 46 := rfl; omega))
        have hmiss : Go.Lib.Pa.lastIdx l 46 j = Go.Lib.Pa.lastIndexByte l 46 := by
          rw [← hh.out]
          conv => rhs; unfold Go.Lib.Pa.lastIdx
          rw [if_neg]
          rw [hat]
          intro h
          exact h46 (Option.some.inj h)
        have HMI := Lib.hid hmiss
        have q1 : (0 : Int) < (j : Int) := by omega
        clear h46 hat hmiss hjl
        go_wp2
        go_round
        case rel => exact ⟨j, by omega, by go_num, HMI⟩
        case measure => simp [intOf]
    · have hx := extL_miss hh.out (by omega)
      rw [← HE.out] at hx
      have HX := Lib.hid hx
      have q1 : ¬ (0 : Int) < (k : Int) - 1 := by omega
      clear hx
      go_wp2
      go_ret
      exact ⟨by rw [HX.out]; rfl, hb⟩
theorem dirL_lt {l : List UInt8} (h : okPath l = true) : (dirL l).length < l.length := by
  have hn : 0 < l.length := List.length_pos_iff.2 (okPath_ne h)
  have hb := Go.Lib.Pa.lastIndexByte_bounds l 47
  by_cases h1 : Go.Lib.Pa.lastIndexByte l 47 = -1
  · rw [(dirL_last_none h h1).1]; exact hn
  · rw [(dirL_last_some h (i := (Go.Lib.Pa.lastIndexByte l 47).toNat) (by omega)).1, List.length_take]; omega
set_option maxHeartbeats 1000000 in
set_option maxRecDepth 100000 in
theorem runder_upto (d : ByteArray) : ∀ (n : Nat) (s : ByteArray) (w : World), s.size ≤ n → s.size ≤ 1000000 →
    Calls Tryd.prog 31 #[.string s, .string d] w fun e w' => e = .returned (.bool (underL s.data.toList d.data.toList)) ∧ Below w.heap.size w w' := by
  intro n
  induction n with
  | zero =>
    intro s w h0 hs
    have hm := fun w => rmay_any s w hs
    have e : s.data.toList = [] := List.eq_nil_of_length_eq_zero (by have : s.data.toList.length = s.size := rfl; omega)
    have hu : underL s.data.toList d.data.toList = false := by
      rw [e]; unfold underL; rw [okPath_nil]; rfl
    rw [hu]
    rw [e, okPath_nil] at hm
    have HM := Lib.hid hm
    clear hm hu e h0
    go_enter Tryd.func31, Tryd.ntmps31
    go_wp2_with (go_at_call 18; (with_reducible refine (HM.out _).mono ?_); rintro e w1 ⟨rfl, b1⟩)
    go_ret
    exact ⟨rfl, b1⟩
  | succ n ih =>
    intro s w hn hs
    have hm := fun w => rmay_any s w hs
    have hdir := fun w => rdir_any s w hs
    have hdlt := fun h => dirL_lt (l := s.data.toList) h
    have hst := underL_step s.data.toList d.data.toList
    have hde : d.data.toList.isEmpty = d.toList.isEmpty := isEmpty_data d
    have hu0 : d.data.toList = [] → underL s.data.toList d.data.toList = okPath s.data.toList := fun h => by
      unfold underL; rw [h]; simp
    obtain ⟨U, hU⟩ : ∃ U, U = mkB (dirL s.data.toList) := ⟨_, rfl⟩
    have hUd : U.data.toList = dirL s.data.toList := by rw [hU, data_mkB]
    rw [← hU] at hdir
    rw [← hUd] at hdlt hst
    cases ho : okPath s.data.toList with
    | false =>
      have hu : underL s.data.toList d.data.toList = false := by unfold underL; rw [ho]; rfl
      rw [hu]
      rw [ho] at hm
      have HM := Lib.hid hm
      clear hm hu ho hdir hdlt hst hde hu0 hU hUd ih
      go_enter Tryd.func31, Tryd.ntmps31
      go_wp2_with (go_at_call 18; (with_reducible refine (HM.out _).mono ?_); rintro e w1 ⟨rfl, b1⟩)
      go_ret
      exact ⟨rfl, b1⟩
    | true =>
      rw [ho] at hm hst hu0
      have hlt := hdlt ho
      have hsz : U.size ≤ n := by
        have e1 : U.data.toList.length = U.size := rfl
        have e2 : s.data.toList.length = s.size := rfl
        omega
      have hrec := fun w => ih U w hsz (by have e1 : U.data.toList.length = U.size := rfl; have e2 : s.data.toList.length = s.size := rfl; omega)
      clear hdlt hlt hU hUd ih ho
      have HM := Lib.hid hm
      have HDIR := Lib.hid hdir
      cases c1 : d.toList.isEmpty with
      | true =>
        obtain ⟨d1, rfl⟩ := empty_forms c1
        rw [hu0 rfl]
        clear hm hdir hrec hst hde hu0
        go_enter Tryd.func31, Tryd.ntmps31
        go_wp2_with (go_at_call 18; (with_reducible refine (HM.out _).mono ?_); rintro e w1 ⟨rfl, b1⟩)
        go_ret
        exact ⟨rfl, b1⟩
      | false =>
        have d1 := full_forms c1
        have d2 : d.data.toList ≠ [] := by rw [← ByteArray.toList_eq]; exact d1
        have hst2 := hst d2
        rw [Bool.true_and] at hst2
        rw [hst2]
        clear hm hdir hst hde hu0 hst2 d2
        cases cu : U.toList.isEmpty with
        | true =>
          obtain ⟨u1, rfl⟩ := empty_forms cu
          clear hrec
          go_enter Tryd.func31, Tryd.ntmps31
          go_wp2_with (first | (go_at_call 18; (with_reducible refine (HM.out _).mono ?_); rintro e w1 ⟨rfl, b1⟩) | (go_at_call 33; (with_reducible refine (HDIR.out _).mono ?_); rintro e w2 ⟨rfl, b2⟩))
          go_ret
          exact ⟨rfl, b1.trans (b2.mono b1.size)⟩
        | false =>
          have u1 := full_forms cu
          have u2 : (U.data.toList != []) = true := by rw [bne_iff_ne, ← ByteArray.toList_eq]; exact u1
          rw [u2, Bool.true_and]
          clear u2
          have heq : (U.data.toList == d.data.toList) = (U.toList == d.toList) := by rw [ByteArray.toList_eq, ByteArray.toList_eq]
          rw [heq]
          clear heq
          cases ce : U.toList == d.toList with
          | true =>
            have f1 : U.toList = d.toList := beq_iff_eq.1 ce
            have F1 := Lib.hid f1
            have hUe : U = d := by
              rw [ByteArray.toList_eq, ByteArray.toList_eq] at f1
              apply ByteArray.ext
              exact Array.toList_inj.1 f1
            subst hUe
            clear hrec f1 F1
            go_enter Tryd.func31, Tryd.ntmps31
            go_wp2_with (first | (go_at_call 18; (with_reducible refine (HM.out _).mono ?_); rintro e w1 ⟨rfl, b1⟩) | (go_at_call 33; (with_reducible refine (HDIR.out _).mono ?_); rintro e w2 ⟨rfl, b2⟩))
            go_ret
            exact ⟨rfl, b1.trans (b2.mono b1.size)⟩
          | false =>
            have f1 : ¬ U.toList = d.toList := beq_eq_false_iff_ne.1 ce
            have HR := Lib.hid hrec
            clear hrec
            go_enter Tryd.func31, Tryd.ntmps31
            go_wp2_with (first | (go_at_call 18; (with_reducible refine (HM.out _).mono ?_); rintro e w1 ⟨rfl, b1⟩) | (go_at_call 33; (with_reducible refine (HDIR.out _).mono ?_); rintro e w2 ⟨rfl, b2⟩) | (go_at_call 31; (with_reducible refine (HR.out _).mono ?_); rintro e w3 ⟨rfl, b3⟩))
            go_ret
            exact ⟨rfl, (b1.trans (b2.mono b1.size)).trans (b3.mono (Nat.le_trans b1.size b2.size))⟩
theorem runder_any (s d : ByteArray) (w : World) (hs : s.size ≤ 1000000) :
    Calls Tryd.prog 31 #[.string s, .string d] w fun e w' => e = .returned (.bool (underL s.data.toList d.data.toList)) ∧ Below w.heap.size w w' := runder_upto d s.size s w (Nat.le_refl _) hs
end Go.Proofs.YtjpaajpjajoijaaDoor
