/- bloomeryref03.May: is a text a path? -/
import Derived.Test.YtjpaajpjajoijaaDoorPart
namespace Go.Proofs.YtjpaajpjajoijaaDoor
set_option linter.unusedVariables false
open Go.RowKit
theorem all_cut {α : Type} (l : List α) (p : α → Bool) (k : Nat) (h : k < l.length) (hk : p (l[k]'h) = false) : l.all p = false := by
  rw [Bool.eq_false_iff]
  intro h2
  have := List.all_eq_true.1 h2 _ (List.getElem_mem h)
  rw [hk] at this
  cases this
theorem all_take_succ {α : Type} (l : List α) (p : α → Bool) (k : Nat) (h : k < l.length) (ha : (l.take k).all p = true) (hk : p (l[k]'h) = true) : (l.take (k + 1)).all p = true := by
  rw [List.take_succ_eq_append_getElem h, List.all_append, ha]
  simp [hk]
set_option maxHeartbeats 400000 in
set_option maxRecDepth 100000 in
theorem rmay_any (s : ByteArray) (w : World) (hs : s.size ≤ 1000000) :
    Calls Tryd.prog 18 #[.string s] w fun e w' => e = .returned (.bool (okPath s.data.toList)) ∧ Below w.heap.size w w' := by
  go_enter Tryd.func18, Tryd.ntmps18
  go_wp2_with (go_at_call 38; refine (parts_any s w hs).mono ?_)
  rintro e w1 ⟨g, cap, rfl, hown, hb⟩
  rw [partsTo_eq] at hown
  have hok : ∃ p, p = splitS s.data.toList ∧ okPath s.data.toList = (p.all okPart && decide (p.length ≤ 16)) ∧ p.length ≤ 1000001 ∧ ∀ x ∈ p, x.length ≤ 1000000 :=
    ⟨_, rfl, rfl, by have := partsTo_le s.data.toList; rw [partsTo_eq] at this; have h2 : s.data.toList.length = s.size := rfl; omega,
      fun x hx => by have := parts_small s.data.toList x (by rw [partsTo_eq]; exact hx); have h2 : s.data.toList.length = s.size := rfl; omega⟩
  obtain ⟨p, hp, hok, hpl, hps⟩ := hok
  rw [partsTo_eq, ← hp]
  rw [← hp] at hown
  have H := Lib.hid hok
  have HPS := Lib.hid hps
  clear hp hok hps
  go_wp2_with fail
  go_loop [4] (fun i => ∃ k : Nat, k ≤ p.length ∧ i = .int .i64 k ∧ Hid ((p.take k).all okPart = true)) (fun i => p.length - (intOf i).toNat)
  case atStart => exact ⟨0, by omega, rfl, Lib.hid rfl⟩
  case round =>
    obtain ⟨k, hk, rfl, hh⟩ := hrel
    by_cases hlt : k < p.length
    · have hc := hown.cellAt k (by omega)
      rw [List.getElem?_eq_getElem (by rw [List.length_map]; omega), List.getElem_map] at hc
      have hs1 := fun h => all_take_succ p okPart k hlt hh.out h
      have hs2 := all_cut p okPart k hlt
      have hxl := HPS.out _ (List.getElem_mem hlt)
      obtain ⟨x, hx⟩ : ∃ x, x = p[k] := ⟨_, rfl⟩
      rw [← hx] at hc hs1 hs2 hxl
      unfold Sv at hc
      have hcp : ∀ w, Calls Tryd.prog 47 #[.string ⟨x.toArray⟩] w fun e w' => e = .returned (.bool (okPart x)) ∧ w = w' := fun w => by
        have := rpart_any ⟨x.toArray⟩ w (by unfold maxLen; show x.length ≤ _; omega)
        simpa using this
      have HS1 := Lib.hid hs1
      have HS2 := Lib.hid hs2
      have HCP := Lib.hid hcp
      clear hs1 hs2 hx hcp
      cases ho : okPart x with
      | true =>
        rw [ho] at HS1 HS2 HCP
        clear ho
        go_wp2_with (go_at_call 47; refine (HCP.out _).mono ?_; rintro e w' ⟨rfl, rfl⟩)
        go_round
        case rel => exact ⟨k + 1, by omega, by go_num, Lib.hid (HS1.out (by first | rfl | trivial))⟩
        case measure => simp [intOf]; omega
      | false =>
        rw [ho] at HS1 HS2 HCP
        clear ho
        go_wp2_with (go_at_call 47; refine (HCP.out _).mono ?_; rintro e w' ⟨rfl, rfl⟩)
        go_ret
        exact ⟨by rw [H.out, HS2.out (by first | rfl | trivial)]; rfl, hb⟩
    · have hfin : p.take k = p := List.take_of_length_le (by omega)
      have HF := Lib.hid hfin
      have hkp : k = p.length := by omega
      clear hfin
      go_wp2
      go_ret
      exact ⟨by rw [H.out, ← HF.out, hh.out, HF.out]; simp; omega, hb⟩
end Go.Proofs.YtjpaajpjajoijaaDoor
