/- bloomeryref03.Join, Dir, Base, Ext, Under. -/
import Derived.Test.YtjpaajpjajoijaaDoorJoin
namespace Go.Proofs.YtjpaajpjajoijaaDoor
set_option linter.unusedVariables false
open Go.RowKit
theorem parts_split (s : ByteArray) (w : World) (hs : s.size ≤ 1000000) :
    Calls Tryd.prog 38 #[.string s] w fun e w' => ∃ (g cap : Nat), e = .returned (.slice (some ⟨g, 0, none⟩) (splitS s.data.toList).length cap) ∧
      w'.ownsRow w.heap.size 9 1 (.slice (some ⟨g, 0, none⟩) (splitS s.data.toList).length cap) (splitS s.data.toList).length ((splitS s.data.toList).map Sv) ∧ Below w.heap.size w w' := by
  have := parts_any s w hs
  rw [partsTo_eq] at this
  exact this
theorem splitS_len (l : List UInt8) : (splitS l).length ≤ l.length + 1 := by rw [← partsTo_eq]; exact partsTo_le l
theorem splitS_small (l x : List UInt8) (h : x ∈ splitS l) : x.length ≤ l.length := parts_small l x (by rw [partsTo_eq]; exact h)
set_option maxHeartbeats 1000000 in
set_option maxRecDepth 100000 in
theorem rjoin_any (d s : ByteArray) (w : World) (hd : d.size ≤ 300000) (hs : s.size ≤ 300000) :
    Calls Tryd.prog 29 #[.string d, .string s] w fun e w' => e = .returned (.tuple #[.string (mkB (joinL d.data.toList s.data.toList).1), .int .i64 (joinL d.data.toList s.data.toList).2]) ∧ Below w.heap.size w w' := by
  have hmd := fun w => rmay_any d w (by omega)
  have hms := fun w => rmay_any s w (by omega)
  have hpd := fun w => parts_split d w (by omega)
  have hps := fun w => parts_split s w (by omega)
  have hld := splitS_len d.data.toList
  have hls := splitS_len s.data.toList
  have hj : joinL d.data.toList s.data.toList = joinL d.data.toList s.data.toList := rfl
  conv at hj => rhs; unfold joinL
  rw [isEmpty_data] at hj
  have hmk := mkB_of (data_append3 d s)
  obtain ⟨X, hX⟩ : ∃ X, X = d.data.toList ++ 47 :: s.data.toList := ⟨_, rfl⟩
  rw [← hX] at hmk hj
  obtain ⟨J, hJ⟩ : ∃ J, J = joinL d.data.toList s.data.toList := ⟨_, rfl⟩
  rw [← hJ] at hj ⊢
  obtain ⟨pd, hpd0⟩ : ∃ p, p = splitS d.data.toList := ⟨_, rfl⟩
  obtain ⟨ps, hps0⟩ : ∃ p, p = splitS s.data.toList := ⟨_, rfl⟩
  rw [← hpd0] at hpd hld hj
  rw [← hps0] at hps hls hj
  have e1 : d.data.toList.length = d.size := rfl
  have e2 : s.data.toList.length = s.size := rfl
  have g1 : pd.length ≤ 300001 := by omega
  have g2 : ps.length ≤ 300001 := by omega
  clear hX hJ hpd0 hps0 e1 e2 hld hls
  cases c1 : d.toList.isEmpty with
  | true =>
    obtain ⟨d1, rfl⟩ := empty_forms c1
    cases ho : okPath s.data.toList with
    | false =>
      rw [ho] at hms hj
      rw [c1] at hj
      have HJ := Lib.hid hj
      have HS := Lib.hid hms
      clear hj hms hmd hpd hps ho hmk
      go_enter Tryd.func29, Tryd.ntmps29
      go_wp2_with (go_at_call 18; (with_reducible refine (HS.out _).mono ?_); rintro e w2 ⟨rfl, b2⟩)
      go_ret2
      exact ⟨by rw [HJ.out]; rfl, b2⟩
    | true =>
      rw [ho] at hms hj
      rw [c1] at hj
      have HJ := Lib.hid hj
      have HS := Lib.hid hms
      clear hj hms hmd hpd hps ho hmk
      go_enter Tryd.func29, Tryd.ntmps29
      go_wp2_with (go_at_call 18; (with_reducible refine (HS.out _).mono ?_); rintro e w2 ⟨rfl, b2⟩)
      go_ret2
      exact ⟨by rw [HJ.out]; simp [mkB_data], b2⟩
  | false =>
    have d1 := full_forms c1
    rw [c1] at hj
    cases hod : okPath d.data.toList with
    | false =>
      rw [hod] at hmd hj
      have HJ := Lib.hid hj
      have HD := Lib.hid hmd
      clear hj hms hmd hpd hps hod hmk
      go_enter Tryd.func29, Tryd.ntmps29
      go_wp2_with (go_at_call 18; (with_reducible refine (HD.out _).mono ?_); rintro e w1 ⟨rfl, b1⟩)
      go_ret2
      exact ⟨by rw [HJ.out]; rfl, b1⟩
    | true =>
      rw [hod] at hmd hj
      have HD := Lib.hid hmd
      clear hmd hod
      cases hos : okPath s.data.toList with
      | false =>
        rw [hos] at hms hj
        have HJ := Lib.hid hj
        have HS := Lib.hid hms
        clear hj hms hos hpd hps hmk
        go_enter Tryd.func29, Tryd.ntmps29
        go_wp2_with (first | (go_at_call 18; (with_reducible refine (HD.out _).mono ?_); rintro e w1 ⟨rfl, b1⟩) | (go_at_call 18; (with_reducible refine (HS.out _).mono ?_); rintro e w2 ⟨rfl, b2⟩))
        go_ret2
        exact ⟨by rw [HJ.out]; rfl, b1.trans (b2.mono b1.size)⟩
      | true =>
        rw [hos] at hms hj
        have HS := Lib.hid hms
        have HPD := Lib.hid hpd
        have HPS := Lib.hid hps
        clear hms hos hpd hps
        by_cases h16 : 16 < pd.length + ps.length
        · rw [if_neg (by simp), if_neg (by simp), if_pos h16] at hj
          have HJ := Lib.hid hj
          have HMK := Lib.hid hmk
          clear hj hmk
          go_enter Tryd.func29, Tryd.ntmps29
          go_wp2_with (first | (go_at_call 18; (with_reducible refine (HD.out _).mono ?_); rintro e w1 ⟨rfl, b1⟩) | (go_at_call 18; (with_reducible refine (HS.out _).mono ?_); rintro e w2 ⟨rfl, b2⟩) | (go_at_call 38; (with_reducible refine (HPD.out _).mono ?_); rintro e w3 ⟨g3, cap3, rfl, _, b3⟩) | (go_at_call 38; (with_reducible refine (HPS.out _).mono ?_); rintro e w4 ⟨g4, cap4, rfl, _, b4⟩))
          go_ret2
          exact ⟨by rw [HJ.out]; rfl, ((b1.trans (b2.mono b1.size)).trans (b3.mono (Nat.le_trans b1.size b2.size))).trans (b4.mono (Nat.le_trans (Nat.le_trans b1.size b2.size) b3.size))⟩
        · rw [if_neg (by simp), if_neg (by simp), if_neg h16] at hj
          have HJ := Lib.hid hj
          have HMK := Lib.hid hmk
          clear hj hmk
          go_enter Tryd.func29, Tryd.ntmps29
          go_wp2_with (first | (go_at_call 18; (with_reducible refine (HD.out _).mono ?_); rintro e w1 ⟨rfl, b1⟩) | (go_at_call 18; (with_reducible refine (HS.out _).mono ?_); rintro e w2 ⟨rfl, b2⟩) | (go_at_call 38; (with_reducible refine (HPD.out _).mono ?_); rintro e w3 ⟨g3, cap3, rfl, _, b3⟩) | (go_at_call 38; (with_reducible refine (HPS.out _).mono ?_); rintro e w4 ⟨g4, cap4, rfl, _, b4⟩))
          go_ret2
          exact ⟨by rw [HJ.out, HMK.out]; rfl, ((b1.trans (b2.mono b1.size)).trans (b3.mono (Nat.le_trans b1.size b2.size))).trans (b4.mono (Nat.le_trans (Nat.le_trans b1.size b2.size) b3.size))⟩
/-- The text behind the loop's rounds. -/
theorem joinS_snoc (p : List (List UInt8)) (x : List UInt8) (h : p ≠ []) : joinS (p ++ [x]) = joinS p ++ 47 :: x := by
  rw [joinS_append p [x] h (by simp)]
  rfl
theorem joinS_length : ∀ (p q : List (List UInt8)), (joinS p).length ≤ (joinS (p ++ q)).length
  | [], q => by simp [joinS]
  | p, [] => by simp
  | x :: p, y :: q => by
    rw [joinS_append (x :: p) (y :: q) (by simp) (by simp), List.length_append]
    omega
set_option maxHeartbeats 1000000 in
set_option maxRecDepth 100000 in
theorem rdir_any (s : ByteArray) (w : World) (hs : s.size ≤ 1000000) :
    Calls Tryd.prog 33 #[.string s] w fun e w' => e = .returned (.string (mkB (dirL s.data.toList))) ∧ Below w.heap.size w w' := by
  have hm := fun w => rmay_any s w hs
  have hp := fun w => parts_split s w hs
  have hl := splitS_len s.data.toList
  have hne := splitS_ne s.data.toList
  have hdl : dirL s.data.toList = if okPath s.data.toList = true then joinS (splitS s.data.toList).dropLast else [] := rfl
  have hjl : ∀ k, (joinS ((splitS s.data.toList).take k)).length ≤ 1000000 := fun k => by
    have h1 := joinS_length ((splitS s.data.toList).take k) ((splitS s.data.toList).drop k)
    rw [List.take_append_drop, joinS_split] at h1
    have h2 : s.data.toList.length = s.size := rfl
    omega
  have hxs : ∀ x ∈ splitS s.data.toList, x.length ≤ 1000000 := fun x hx => by
    have := splitS_small s.data.toList x hx
    have h2 : s.data.toList.length = s.size := rfl
    omega
  obtain ⟨D, hD⟩ : ∃ D, D = dirL s.data.toList := ⟨_, rfl⟩
  obtain ⟨p, hp0⟩ : ∃ p, p = splitS s.data.toList := ⟨_, rfl⟩
  rw [← hp0] at hp hl hne hdl hjl hxs
  rw [← hD] at hdl ⊢
  have e2 : s.data.toList.length = s.size := rfl
  have g1 : p.length ≤ 1000001 := by omega
  have g0 : 0 < p.length := List.length_pos_iff.2 hne
  clear hp0 hD e2 hl hne
  have HP := Lib.hid hp
  have HJL := Lib.hid hjl
  have HXS := Lib.hid hxs
  clear hp hjl hxs
  cases ho : okPath s.data.toList with
  | false =>
    rw [ho] at hm hdl
    rw [if_neg (by simp)] at hdl
    have HD := Lib.hid hdl
    have HM := Lib.hid hm
    clear ho hm hdl
    go_enter Tryd.func33, Tryd.ntmps33
    go_wp2_with (first | (go_at_call 38; (with_reducible refine (HP.out _).mono ?_); rintro e w1 ⟨g, cap, rfl, hown, b1⟩) | (go_at_call 18; (with_reducible refine (HM.out _).mono ?_); rintro e w2 ⟨rfl, b2⟩))
    go_ret
    exact ⟨by rw [HD.out]; rfl, b1.trans (b2.mono b1.size)⟩
  | true =>
    rw [ho] at hm hdl
    rw [if_pos rfl] at hdl
    have HD := Lib.hid hdl
    have HM := Lib.hid hm
    clear ho hm hdl
    by_cases h1 : p.length = 1
    · have q1 : ((p.length : Int) == 1) = true := by rw [beq_iff_eq]; omega
      have HD2 : Hid (D = []) := Lib.hid (by
        rw [HD.out]
        match p, h1 with
        | [x], _ => rfl)
      clear h1
      go_enter Tryd.func33, Tryd.ntmps33
      go_wp2_with (first | (go_at_call 38; (with_reducible refine (HP.out _).mono ?_); rintro e w1 ⟨g, cap, rfl, hown, b1⟩) | (go_at_call 18; (with_reducible refine (HM.out _).mono ?_); rintro e w2 ⟨rfl, b2⟩))
      go_ret
      exact ⟨by rw [HD2.out]; rfl, b1.trans (b2.mono b1.size)⟩
    · have q1 : ((p.length : Int) == 1) = false := by rw [beq_eq_false_iff_ne]; omega
      have g2 : 2 ≤ p.length := by omega
      clear h1
      go_enter Tryd.func33, Tryd.ntmps33
      go_wp2_with (first | (go_at_call 38; (with_reducible refine (HP.out _).mono ?_); rintro e w1 ⟨g, cap, rfl, hown, b1⟩))
      have hc : ∀ k (hk : k < p.length), w1.cell? ⟨g, k, none⟩ = some (.string (mkB p[k])) := fun k hk => by
        have := hown.cellAt k (by omega)
        rw [List.getElem?_eq_getElem (by rw [List.length_map]; omega), List.getElem_map] at this
        exact this
      have hlt := (hown.lt g rfl).2
      have HC := Lib.hid hc
      clear hown hc
      go_wp2_with (go_at_call 18; (with_reducible refine (HM.out _).mono ?_))
      rintro e w2 ⟨rfl, b2⟩
      have hc2 : ∀ k (hk : k < p.length), w2.cell? ⟨g, k, none⟩ = some (.string (mkB p[k])) := fun k hk => (b2.cell (p := ⟨g, k, none⟩) hlt).trans (HC.out k hk)
      have hc0 := hc2 0 (by omega)
      have HC2 := Lib.hid hc2
      clear hc2
      go_wp2
      clear hc0
      go_loop [4, 5] (fun v i => ∃ (k : Nat) (o : ByteArray), 1 ≤ k ∧ k + 1 ≤ p.length ∧ i = .int .i64 k ∧ v = .string o ∧ Hid (o.data.toList = joinS (p.take k))) (fun _ i => p.length - (intOf i).toNat)
      case atStart =>
        refine ⟨1, mkB p[0], by omega, by omega, rfl, rfl, Lib.hid ?_⟩
        rw [data_mkB]
        match p, g0 with
        | x :: r, _ => rfl
      case round =>
        obtain ⟨k, o, hk1, hk2, rfl, rfl, ho⟩ := hrel
        by_cases hlt2 : k + 1 < p.length
        · have hck := HC2.out k (by omega)
          have hsn := joinS_snoc (p.take k) (p[k]) (take_ne (by omega) (by omega))
          rw [← List.take_succ_eq_append_getElem (by omega)] at hsn
          have hos : o.size ≤ 1000000 := by
            have := HJL.out k
            rw [← ho.out] at this
            exact this
          have hxk := HXS.out _ (List.getElem_mem (show k < p.length by omega))
          obtain ⟨x, hx⟩ : ∃ x, x = mkB p[k] := ⟨_, rfl⟩
          have hxd : x.data.toList = p[k] := by rw [hx, data_mkB]
          have hxs2 : x.size ≤ 1000000 := by rw [hx]; exact hxk
          rw [← hx] at hck
          rw [← hxd] at hsn
          have HSN := Lib.hid hsn
          have q2 : (k : Int) < (p.length : Int) - 1 := by omega
          have q5 : (o.size : Int) + 1 ≤ 9223372036854775807 := by omega
          have q6 : o.size + 1 ≤ 9223372036854775807 := by omega
          have q7 : ¬ (9223372036854775807 < o.size + 1) := by omega
          clear hsn hx hxd hxk
          go_wp2
          go_round
          case rel => exact ⟨k + 1, _, by omega, by omega, by go_num, rfl, Lib.hid (by rw [data_append3, ho.out, HSN.out])⟩
          case measure => simp [intOf]; omega
        · have hk3 : k = p.length - 1 := by omega
          have hfin : p.take k = p.dropLast := by rw [List.dropLast_eq_take, hk3]
          have HF := Lib.hid hfin
          have q2 : ¬ (k : Int) < (p.length : Int) - 1 := by omega
          clear hfin hk3
          go_wp2
          go_ret
          refine ⟨?_, b1.trans (b2.mono b1.size)⟩
          have ho2 := ho.out
          rw [HF.out, ← HD.out] at ho2
          rw [mkB_of ho2]
          rfl
end Go.Proofs.YtjpaajpjajoijaaDoor
