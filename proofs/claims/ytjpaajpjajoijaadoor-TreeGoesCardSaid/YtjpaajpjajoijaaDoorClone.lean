/- slices.Clone of files; tree.compare; slices.BinarySearchFunc. -/
import Derived.Test.YtjpaajpjajoijaaDoorSplice
import Derived.Lib.SliceRun
namespace Go.Proofs.YtjpaajpjajoijaaDoor
set_option linter.unusedVariables false
open Go.RowKit
theorem Files.cells {w : World} {B : Nat} {A : Option Addr} {l : List FileB} (h : Files w B A l) (h0 : 0 < l.length) : ∃ a, A = some a ∧ a.block < B ∧ ∀ j v, (fcells l)[j]? = some v → w.cell? (a.add j) = some v := by
  obtain ⟨a, rfl, hab, hc⟩ := h h0
  refine ⟨a, rfl, hab, fun j v hj => ?_⟩
  have hjl : j < l.length * 2 := by rw [← fcells_length]; exact (List.getElem?_eq_some_iff.1 hj).1
  obtain ⟨k, hk⟩ : ∃ k, k = j / 2 := ⟨_, rfl⟩
  have hkl : k < l.length := by omega
  obtain ⟨c1, c2⟩ := hc k l[k] (List.getElem?_eq_getElem hkl)
  obtain ⟨f1, f2⟩ := fcells_get l k l[k] (List.getElem?_eq_getElem hkl)
  rcases Nat.mod_two_eq_zero_or_one j with h2 | h2
  · have hj2 : j = k * 2 := by omega
    rw [hj2] at hj ⊢
    rw [f1] at hj
    injection hj with hj
    rw [← hj]
    exact c1
  · have hj2 : j = k * 2 + 1 := by omega
    rw [hj2] at hj ⊢
    rw [f2] at hj
    injection hj with hj
    rw [← hj, ← c2, ← add_of_add]
    rfl
set_option maxHeartbeats 2000000 in
set_option maxRecDepth 100000 in
theorem clone_any (l : List FileB) (A : Option Addr) (c : Nat) (w : World) (hF : Files w w.heap.size A l) (hn : l.length ≤ 1000) :
    Calls Tryd.prog 49 #[.slice A l.length c] w fun e w' => ∃ (A' : Option Addr) (cap : Nat), e = .returned (.slice A' l.length cap) ∧
      w'.ownsRow w.heap.size 36 2 (.slice A' l.length cap) l.length (fcells l) ∧ Below w.heap.size w w' := by
  obtain ⟨i0, hi0, hz0, hz1, hz2⟩ := info_parts info36p
  have hnil := fun (w : World) n c n' c' => Lib.run_eql_slice_nil (P := Tryd.prog) w 22 36 A n c n' c' Tryd.underlying22
  obtain ⟨n, hln⟩ : ∃ n, n = l.length := ⟨_, rfl⟩
  by_cases h0 : 0 < l.length
  · obtain ⟨a, rfl, hab, hc⟩ := hF.cells h0
    have hown0 := World.ownsRow_lit (base := w.heap.size) (e := 36) (size := 2) w #[] 0 (Nat.le_refl _) (by decide) rfl
    have hlen := fcells_length l
    have hone := fcells_one' l
    have hA0 : Below w.heap.size w (w.alloc (.cells #[] 36)) := (Below.refl _ _).alloc (Nat.le_refl _) _
    have hc2 : ∀ j v, (fcells l)[j]? = some v → (w.alloc (.cells #[] 36)).cell? (a.add j) = some v := fun j v hj => (hA0.cell (by rw [add_block]; exact hab)).trans (hc j v hj)
    obtain ⟨xs, hxs⟩ : ∃ xs, xs = fcells l := ⟨_, rfl⟩
    rw [← hxs] at hc2 hlen hone ⊢
    rw [← hln] at h0 hn hlen ⊢
    have HC2 := Lib.hid hc2
    have HLEN := Lib.hid hlen
    have HONE := Lib.hid hone
    have HOWN := Lib.hid hown0
    clear hc hc2 hlen hone hown0 hF hxs hln
    go_enter Tryd.func49, Tryd.ntmps49
    go_wp2_with (first
      | simp only [hnil]
      | (at_builtin; refine wpList_append_lies _ rfl (.tmp 5) (.tmp 6) 22 rfl w.heap.size 36 i0 (.agg #[.string ⟨#[]⟩, .string ⟨#[]⟩]) 2 32 Tryd.underlying22 hi0 hz0 hz1 hz2 rfl (by decide) (.slice (some ⟨w.heap.size, 0, none⟩) 0 0) 0 _ rfl HOWN.out a n c xs rfl HLEN.out HC2.out HONE.out h0 (by unfold maxLen; omega) (by omega) (by simp) _ rfl ?_; intro g2 cap2 w2 hown2 hgrow hat hg2))
    go_ret
    exact ⟨_, _, rfl, by simpa using hown2, hA0.grown hgrow (by simp) (fun k e => by cases e; exact Nat.le_refl _)⟩
  · have hl0 : l = [] := List.eq_nil_of_length_eq_zero (by omega)
    subst hl0
    have hown0 := World.ownsRow_lit (base := w.heap.size) (e := 36) (size := 2) w #[] 0 (Nat.le_refl _) (by decide) rfl
    have hA0 : Below w.heap.size w (w.alloc (.cells #[] 36)) := (Below.refl _ _).alloc (Nat.le_refl _) _
    have HOWN := Lib.hid hown0
    clear hF hn h0 hown0
    cases A with
    | none =>
      go_enter Tryd.func49, Tryd.ntmps49
      go_wp2_with (simp only [hnil])
      go_ret
      exact ⟨none, 0, rfl, World.ownsRow_nil _ _ _ _, Below.refl _ _⟩
    | some a =>
      go_enter Tryd.func49, Tryd.ntmps49
      go_wp2_with (simp only [hnil])
      go_ret
      exact ⟨_, 0, rfl, HOWN.out, hA0⟩
end Go.Proofs.YtjpaajpjajoijaaDoor
