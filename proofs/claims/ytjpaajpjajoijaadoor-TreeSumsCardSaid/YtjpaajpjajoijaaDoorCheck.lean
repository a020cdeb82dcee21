/- tree.Check, bloomeryref05.Check at small files. -/
import Derived.Test.YtjpaajpjajoijaaDoorLook
namespace Go.Proofs.YtjpaajpjajoijaaDoor
set_option linter.unusedVariables false
open Go.RowKit
theorem check_step {l : List FileB} {k : Nat} {ah : Option ByteArray} (hk : k < l.length) (h : checkL l = checkFrom ah (l.drop k)) :
    (lookF (l[k]'hk) ah = 0 → checkL l = checkFrom (some (l[k]'hk).1) (l.drop (k + 1))) ∧ (lookF (l[k]'hk) ah ≠ 0 → checkL l = lookF (l[k]'hk) ah) := by
  rw [List.drop_eq_getElem_cons hk] at h
  unfold checkFrom at h
  exact ⟨fun h0 => by rw [h, if_pos h0], fun h0 => by rw [h, if_neg h0]⟩
theorem check_end {l : List FileB} {k : Nat} {ah : Option ByteArray} (hk : l.length ≤ k) (h : checkL l = checkFrom ah (l.drop k)) : checkL l = 0 := by
  rw [List.drop_of_length_le hk] at h
  exact h
set_option maxHeartbeats 1000000 in
set_option maxRecDepth 100000 in
theorem tcheck_any (l : List FileB) (A : Option Addr) (c : Nat) (w : World) (hF : Files w w.heap.size A l) (hs : Small l) :
    Calls Tryd.prog 25 #[.slice A l.length c] w fun e w' => e = .returned (.int .i64 (checkL l)) ∧ Below w.heap.size w w' := by
  obtain ⟨hn, hs⟩ := hs
  have hst := fun k ah => @check_step l k ah
  have hen := fun k ah => @check_end l k ah
  obtain ⟨C, hC⟩ : ∃ C, C = checkL l := ⟨_, rfl⟩
  have h0 : C = checkFrom (if 0 = 0 then none else some ⟨#[]⟩) (l.drop 0) := hC
  rw [← hC] at hst hen ⊢
  have HF := Lib.hid hF
  have HS := Lib.hid hs
  have HST := Lib.hid hst
  have HEN := Lib.hid hen
  have H0 := Lib.hid h0
  clear hF hs hst hen hC h0
  have q0 : ¬ 1024 < l.length := by omega
  go_enter Tryd.func25, Tryd.ntmps25
  go_wp2
  go_loopw [3, 12] (fun a i wr => ∃ (k : Nat) (ah : ByteArray), k ≤ l.length ∧ i = .int .i64 k ∧ a = .string ah ∧ Hid (C = checkFrom (if k = 0 then none else some ah) (l.drop k)) ∧ Below w.heap.size w wr) (fun _ i _ => l.length - (intOf i).toNat)
  case atStart => exact ⟨0, ⟨#[]⟩, by omega, rfl, rfl, H0, Below.refl _ _⟩
  case round =>
    obtain ⟨k, ah, hk, rfl, rfl, hh, hB⟩ := hrel
    by_cases hlt : k < l.length
    · obtain ⟨a, rfl, hab, hc⟩ := (HF.out.below hB (Nat.le_refl _)) (by omega)
      obtain ⟨c1, c2⟩ := hc k l[k] (List.getElem?_eq_getElem hlt)
      obtain ⟨s1, s2⟩ := HS.out l[k] (List.getElem_mem hlt)
      obtain ⟨hz, hnz⟩ := HST.out k _ hlt hh.out
      obtain ⟨f, hf⟩ : ∃ f, f = l[k] := ⟨_, rfl⟩
      rw [← hf] at c1 c2 s1 s2 hz hnz
      clear hf hc
      have hl : ∀ w, Calls Tryd.prog 58 #[.agg #[.string f.1, .string f.2], .string ah, .bool ((k : Int) == 0)] w fun e w' => e = .returned (.int .i64 (lookF f (if k = 0 then none else some ah))) ∧ Below w.heap.size w w' := fun w => by
        have h5 := look_any f ah ((k : Int) == 0) w s1 s2
        have h6 : (if ((k : Int) == 0) = true then none else some ah) = (if k = 0 then none else some ah) := by
          by_cases h7 : k = 0
          · rw [if_pos h7, if_pos (by rw [h7]; rfl)]
          · rw [if_neg h7, if_neg (by rw [beq_iff_eq]; omega)]
        rw [h6] at h5
        exact h5
      obtain ⟨E, hE⟩ : ∃ E, E = lookF f (if k = 0 then none else some ah) := ⟨_, rfl⟩
      rw [← hE] at hz hnz hl
      have HL := Lib.hid hl
      have HZ := Lib.hid hz
      have HNZ := Lib.hid hnz
      clear hE hz hnz hl
      have hsz := hB.size
      have hbox := Blk.new wr 36 #[.string f.1, .string f.2]
      have hcb : ∀ w1, Below (wr.heap.size + 1) (wr.alloc (.cells #[.string f.1, .string f.2] 36)) w1 → w1.cell? ⟨wr.heap.size, 0, none⟩ = some (.string f.1) := fun w1 hb => ((hbox.below hb (by omega)).cell 0).trans rfl
      have hB0 : Below w.heap.size w (wr.alloc (.cells #[.string f.1, .string f.2] 36)) := hB.alloc hsz _
      have HC := Lib.hid hcb
      clear hcb hbox
      by_cases hE0 : E = 0
      · have HZ2 := Lib.hid (HZ.out hE0)
        subst hE0
        go_wp2_with (go_at_call 58; (with_reducible refine (HL.out _).mono ?_); rintro e w1 ⟨rfl, b1⟩; simp only [World.size_alloc] at b1; have k0 := HC.out w1 b1)
        go_roundw
        case rel => exact ⟨k + 1, f.1, by omega, by go_num, rfl, Lib.hid (by rw [if_neg (by omega)]; exact HZ2.out), hB0.trans (b1.mono (by omega))⟩
        case measure => simp [intOf]; omega
      · have HNZ2 := Lib.hid (HNZ.out hE0)
        have q1 : (E != 0) = true := bne_iff_ne.2 hE0
        clear hE0
        go_wp2_with (go_at_call 58; (with_reducible refine (HL.out _).mono ?_); rintro e w1 ⟨rfl, b1⟩; simp only [World.size_alloc] at b1; have k0 := HC.out w1 b1)
        go_ret
        exact ⟨by rw [HNZ2.out]; rfl, hB0.trans (b1.mono (by omega))⟩
    · have HE := Lib.hid (HEN.out k _ (by omega) hh.out)
      go_wp2
      go_ret
      exact ⟨by rw [HE.out]; rfl, hB⟩
end Go.Proofs.YtjpaajpjajoijaaDoor
