/- bloomeryref05.Check at small files. -/
import Derived.Test.YtjpaajpjajoijaaDoorCheck
namespace Go.Proofs.YtjpaajpjajoijaaDoor
set_option linter.unusedVariables false
open Go.RowKit
theorem lookF_bad {f : FileB} {ah : Option ByteArray} (h : bad7 f.1 = true) : lookF f ah = 7 := by unfold lookF; rw [if_pos h]
theorem lookF_first {f : FileB} (h : bad7 f.1 = false) : lookF f none = 0 := by unfold lookF; rw [if_neg (by rw [h]; simp)]
theorem lookF_next {f : FileB} {a : ByteArray} (h : bad7 f.1 = false) : lookF f (some a) = if f.1.toList == a.toList then 8 else if Op.bytesLess f.1.toList a.toList then 2 else 0 := by unfold lookF; rw [if_neg (by rw [h]; simp)]
set_option maxHeartbeats 4000000 in
set_option maxRecDepth 100000 in
theorem rcheck_any (l : List FileB) (A : Option Addr) (c : Nat) (w : World) (hF : Files w w.heap.size A l) (hs : Small l) :
    Calls Tryd.prog 15 #[.slice A l.length c] w fun e w' => e = .returned (.int .i64 (checkL l)) ∧ Below w.heap.size w w' := by
  obtain ⟨hn, hs⟩ := hs
  have hst := fun k ah => @check_step l k ah
  have hen := fun k ah => @check_end l k ah
  obtain ⟨C, hC⟩ : ∃ C, C = checkL l := ⟨_, rfl⟩
  have h0 : C = checkFrom none (l.drop 0) := hC
  rw [← hC] at hst hen ⊢
  have HF := Lib.hid hF
  have HS := Lib.hid hs
  have HST := Lib.hid hst
  have HEN := Lib.hid hen
  have H0 := Lib.hid h0
  clear hF hs hst hen hC h0
  have q0 : ¬ 1024 < l.length := by omega
  go_enter Tryd.func15, Tryd.ntmps15
  go_wp2
  go_loopw [3, 4, 10] (fun _ _ i wr => ∃ k : Nat, k ≤ l.length ∧ i = .int .i64 k ∧ Hid (C = checkFrom (if k = 0 then none else (l[k - 1]?).map (·.1)) (l.drop k)) ∧ Below w.heap.size w wr) (fun _ _ i _ => l.length - (intOf i).toNat)
  case atStart => exact ⟨0, by omega, rfl, Lib.hid (by rw [if_pos rfl]; exact H0.out), Below.refl _ _⟩
  case round =>
    obtain ⟨k, hk, rfl, hh, hB⟩ := hrel
    by_cases hlt : k < l.length
    · obtain ⟨a, rfl, hab, hc⟩ := HF.out (by omega)
      have hcells : ∀ w1, Below w.heap.size w w1 → ∀ j f, l[j]? = some f → w1.cell? (a.add (j * 2)) = some (.string f.1) ∧ w1.cell? ⟨(a.add (j * 2)).block, (a.add (j * 2)).off + 1, none⟩ = some (.string f.2) := fun w1 hb j f hj =>
        ⟨(hb.cell (p := a.add (j * 2)) (by rw [add_block]; omega)).trans (hc j f hj).1, (hb.cell (p := ⟨(a.add (j * 2)).block, (a.add (j * 2)).off + 1, none⟩) (by show (a.add (j * 2)).block < _; rw [add_block]; omega)).trans (hc j f hj).2⟩
      have HCE := Lib.hid hcells
      clear hcells hc
      obtain ⟨c1, c2⟩ := HCE.out wr hB k l[k] (List.getElem?_eq_getElem hlt)
      obtain ⟨s1, s2⟩ := HS.out l[k] (List.getElem_mem hlt)
      obtain ⟨hz, hnz⟩ := HST.out k _ hlt hh.out
      have hfl : l[k]? = some l[k] := List.getElem?_eq_getElem hlt
      obtain ⟨f, hf⟩ : ∃ f, f = l[k] := ⟨_, rfl⟩
      rw [← hf] at c1 c2 s1 s2 hz hnz hfl
      have HFL := Lib.hid hfl
      clear hf hfl
      have hm := fun w => rmay_any f.1 w (by omega)
      have hu := fun w => runder_any f.1 ⟨#[111, 117, 116]⟩ w (by omega)
      have hbad : bad7 f.1 = (!okPath f.1.data.toList || (f.1.toList == [111, 117, 116] || underL f.1.data.toList [111, 117, 116])) := rfl
      have lb := fun ah => @lookF_bad f ah
      have lf := @lookF_first f
      have ln := fun a => @lookF_next f a
      obtain ⟨ok, hok⟩ : ∃ ok, ok = okPath f.1.data.toList := ⟨_, rfl⟩
      obtain ⟨un, hun⟩ : ∃ un, un = underL f.1.data.toList [111, 117, 116] := ⟨_, rfl⟩
      rw [← hun] at hu
      rw [← hok] at hm
      rw [← hok, ← hun] at hbad
      have HM := Lib.hid hm
      have HU := Lib.hid hu
      have HNZ := Lib.hid hnz
      have HZ := Lib.hid hz
      have HLB := Lib.hid lb
      have HLF := Lib.hid lf
      have HLN := Lib.hid ln
      clear hok hun hm hu hnz hz lb lf ln
      have fin7 : bad7 f.1 = true → C = 7 := fun hb => by
        have h5 := HLB.out (if k = 0 then none else (l[k - 1]?).map (·.1)) hb
        rw [HNZ.out (by rw [h5]; decide), h5]
      have FIN := Lib.hid fin7
      clear fin7
      have hsz := hB.size
      cases ok with
      | false =>
        rw [Bool.not_false, Bool.true_or] at hbad
        have HC7 := Lib.hid (FIN.out hbad)
        clear hbad
        go_wp2_with (go_at_call 18; (with_reducible refine (HM.out _).mono ?_); rintro e w1 ⟨rfl, b1⟩)
        go_ret
        exact ⟨by rw [HC7.out]; rfl, hB.trans (b1.mono hsz)⟩
      | true =>
        cases ho : f.1.toList == [111, 117, 116] with
        | true =>
          have o1 : f.1.toList = [111, 117, 116] := beq_iff_eq.1 ho
          rw [ho, Bool.true_or, Bool.or_true] at hbad
          have HC7 := Lib.hid (FIN.out hbad)
          clear hbad
          go_wp2_with (go_at_call 18; (with_reducible refine (HM.out _).mono ?_); rintro e w1 ⟨rfl, b1⟩)
          go_ret
          exact ⟨by rw [HC7.out]; rfl, hB.trans (b1.mono hsz)⟩
        | false =>
          have o1 : ¬ f.1.toList = [111, 117, 116] := beq_eq_false_iff_ne.1 ho
          rw [ho, Bool.false_or, Bool.not_true, Bool.false_or] at hbad
          cases un with
          | true =>
            have HC7 := Lib.hid (FIN.out hbad)
            clear hbad
            go_wp2_with (first | (go_at_call 18; (with_reducible refine (HM.out _).mono ?_); rintro e w1 ⟨rfl, b1⟩; replace b1 := hB.trans (b1.mono hsz)) | (go_at_call 31; (with_reducible refine (HU.out _).mono ?_); rintro e w2 ⟨rfl, b2⟩; replace b2 := b1.trans (b2.mono b1.size)))
            go_ret
            exact ⟨by rw [HC7.out]; rfl, b2⟩
          | false =>
            have q1 : ¬ 65536 < f.2.size := by omega
            by_cases hk0 : k = 0
            · have h5 := HLF.out hbad
              have HZ2 := Lib.hid (HZ.out (by rw [if_pos hk0]; exact h5))
              have q3 : ¬ (0 : Int) < (k : Int) := by omega
              clear hbad h5 hk0
              go_wp2_with (first | (go_at_call 18; (with_reducible refine (HM.out _).mono ?_); rintro e w1 ⟨rfl, b1⟩; replace b1 := hB.trans (b1.mono hsz)) | (go_at_call 31; (with_reducible refine (HU.out _).mono ?_); rintro e w2 ⟨rfl, b2⟩; replace b2 := b1.trans (b2.mono b1.size); obtain ⟨d1, d2⟩ := HCE.out w2 b2 _ _ HFL.out))
              go_roundw
              case rel => exact ⟨k + 1, by omega, by go_num, Lib.hid (by rw [if_neg (by omega), show l[k + 1 - 1]? = some f from HFL.out]; exact HZ2.out), b2⟩
              case measure => simp [intOf]; omega
            · obtain ⟨j, rfl⟩ : ∃ j, k = j + 1 := ⟨k - 1, by omega⟩
              have hjl : l[j]? = some (l[j]'(by omega)) := List.getElem?_eq_getElem (by omega)
              obtain ⟨g, hg⟩ : ∃ g, g = l[j]'(by omega) := ⟨_, rfl⟩
              rw [← hg] at hjl
              have hah : (if j + 1 = 0 then none else (l[j + 1 - 1]?).map (·.1)) = some g.1 := by
                rw [if_neg (by omega), show l[j + 1 - 1]? = some g from hjl]
                rfl
              have h5 := HLN.out g.1 hbad
              rw [hah] at HNZ HZ
              have HJL := Lib.hid hjl
              clear hbad hg hah hjl hk0
              have hcast : ((j + 1 : Nat) : Int) = (j : Int) + 1 := by omega
              rw [hcast]
              have q3 : (0 : Int) < (j : Int) + 1 := by omega
              have q5 : (j : Int) < (l.length : Int) := by omega
              have q6 : (j : Int) + 1 < (l.length : Int) := by omega
              have q7 : ((j : Int) + 1).toNat = j + 1 := by omega
              clear hcast
              cases he : f.1.toList == g.1.toList with
              | true =>
                have e1 : f.1.toList = g.1.toList := beq_iff_eq.1 he
                rw [if_pos he] at h5
                have HC8 := Lib.hid (HNZ.out (by rw [h5]; decide))
                rw [h5] at HC8
                have E1 := Lib.hid e1
                clear h5 e1
                go_wp2_with (first | (go_at_call 18; (with_reducible refine (HM.out _).mono ?_); rintro e w1 ⟨rfl, b1⟩; replace b1 := hB.trans (b1.mono hsz)) | (go_at_call 31; (with_reducible refine (HU.out _).mono ?_); rintro e w2 ⟨rfl, b2⟩; replace b2 := b1.trans (b2.mono b1.size); obtain ⟨d1, d2⟩ := HCE.out w2 b2 _ _ HFL.out; obtain ⟨d3, d4⟩ := HCE.out w2 b2 _ _ HJL.out))
                go_ret
                exact ⟨by rw [HC8.out]; rfl, b2⟩
              | false =>
                have e1 : ¬ f.1.toList = g.1.toList := beq_eq_false_iff_ne.1 he
                rw [if_neg (by rw [he]; simp)] at h5
                cases hls : Op.bytesLess f.1.toList g.1.toList with
                | true =>
                  rw [if_pos hls] at h5
                  have HC2 := Lib.hid (HNZ.out (by rw [h5]; decide))
                  rw [h5] at HC2
                  clear h5
                  go_wp2_with (first | (go_at_call 18; (with_reducible refine (HM.out _).mono ?_); rintro e w1 ⟨rfl, b1⟩; replace b1 := hB.trans (b1.mono hsz)) | (go_at_call 31; (with_reducible refine (HU.out _).mono ?_); rintro e w2 ⟨rfl, b2⟩; replace b2 := b1.trans (b2.mono b1.size); obtain ⟨d1, d2⟩ := HCE.out w2 b2 _ _ HFL.out; obtain ⟨d3, d4⟩ := HCE.out w2 b2 _ _ HJL.out))
                  go_ret
                  exact ⟨by rw [HC2.out]; rfl, b2⟩
                | false =>
                  rw [if_neg (by rw [hls]; simp)] at h5
                  have HZ2 := Lib.hid (HZ.out h5)
                  clear h5
                  go_wp2_with (first | (go_at_call 18; (with_reducible refine (HM.out _).mono ?_); rintro e w1 ⟨rfl, b1⟩; replace b1 := hB.trans (b1.mono hsz)) | (go_at_call 31; (with_reducible refine (HU.out _).mono ?_); rintro e w2 ⟨rfl, b2⟩; replace b2 := b1.trans (b2.mono b1.size); obtain ⟨d1, d2⟩ := HCE.out w2 b2 _ _ HFL.out; obtain ⟨d3, d4⟩ := HCE.out w2 b2 _ _ HJL.out))
                  go_roundw
                  case rel => exact ⟨j + 1 + 1, by omega, by go_num, Lib.hid (by rw [if_neg (by omega), show l[j + 1 + 1 - 1]? = some f from HFL.out]; exact HZ2.out), b2⟩
                  case measure => simp [intOf]; omega
    · have HE := Lib.hid (HEN.out k _ (by omega) hh.out)
      go_wp2
      go_ret
      exact ⟨by rw [HE.out]; rfl, hB⟩
end Go.Proofs.YtjpaajpjajoijaaDoor
