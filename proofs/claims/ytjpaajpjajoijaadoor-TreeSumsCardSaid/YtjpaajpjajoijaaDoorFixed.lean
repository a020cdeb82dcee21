/- bloomerylaw05.fixed; the law TreeChecks, walked. -/
import Derived.Test.YtjpaajpjajoijaaDoorRPaths
namespace Go.Proofs.YtjpaajpjajoijaaDoor
set_option linter.unusedVariables false
open Go.RowKit
/-- The document's example. -/
def exL : List FileB := [(⟨#[97, 47, 98]⟩, ⟨#[]⟩), (⟨#[99]⟩, ⟨#[]⟩)]
theorem ex_files (w : World) : Files (w.alloc (.cells #[.string ⟨#[97, 47, 98]⟩, .string ⟨#[]⟩, .string ⟨#[99]⟩, .string ⟨#[]⟩] 36)) (w.alloc (.cells #[.string ⟨#[97, 47, 98]⟩, .string ⟨#[]⟩, .string ⟨#[99]⟩, .string ⟨#[]⟩] 36)).heap.size (some ⟨w.heap.size, 0, none⟩) exL := fun _ => by
  have hb := Blk.new w 36 #[.string ⟨#[97, 47, 98]⟩, .string ⟨#[]⟩, .string ⟨#[99]⟩, .string ⟨#[]⟩]
  refine ⟨_, rfl, by simp, fun j f hj => ?_⟩
  match j, hj with
  | 0, hj => cases hj; exact ⟨(hb.cell 0).trans rfl, (hb.cell 1).trans rfl⟩
  | 1, hj => cases hj; exact ⟨(hb.cell 2).trans rfl, (hb.cell 3).trans rfl⟩
theorem ex_small : Small exL := ⟨by decide, fun f hf => by
  simp [exL] at hf
  rcases hf with rfl | rfl <;> exact ⟨by decide, by decide⟩⟩
theorem ex_paths : pathsL exL ⟨#[97]⟩ = [⟨#[97, 47, 98]⟩] := by
  have h1 : checkL exL = 0 := by decide +kernel
  unfold pathsL
  rw [if_pos h1]
  have h2 : underL (⟨#[97, 47, 98]⟩ : ByteArray).data.toList (⟨#[97]⟩ : ByteArray).data.toList = true := by decide +kernel
  have h3 : underL (⟨#[99]⟩ : ByteArray).data.toList (⟨#[97]⟩ : ByteArray).data.toList = false := by decide +kernel
  have h4 : exL.map (fun x => x.1) = [⟨#[97, 47, 98]⟩, ⟨#[99]⟩] := rfl
  rw [h4, List.filter_cons_of_pos (p := fun p : ByteArray => underL p.data.toList (⟨#[97]⟩ : ByteArray).data.toList) h2, List.filter_cons_of_neg (p := fun p : ByteArray => underL p.data.toList (⟨#[97]⟩ : ByteArray).data.toList) (by rw [h3]; simp)]
  rfl
theorem ex_call (w : World) : Calls Tryd.prog 41 #[.slice (some ⟨w.heap.size, 0, none⟩) 2 2, .string ⟨#[97]⟩] (w.alloc (.cells #[.string ⟨#[97, 47, 98]⟩, .string ⟨#[]⟩, .string ⟨#[99]⟩, .string ⟨#[]⟩] 36)) fun e w' =>
    ∃ (g cap : Nat), e = .returned (.slice (some ⟨g, 0, none⟩) 1 cap) ∧ w'.cell? ⟨g, 0, none⟩ = some (.string ⟨#[97, 47, 98]⟩) ∧ Below w.heap.size w w' := by
  refine (tpaths_any exL ⟨#[97]⟩ (some ⟨w.heap.size, 0, none⟩) 2 _ (ex_files w) ex_small (by decide)).mono ?_
  rintro e w' ⟨A, cap, he, hown, hb⟩
  rw [ex_paths] at he hown
  have hb2 : Below w.heap.size w w' := ((Below.refl _ _).alloc (Nat.le_refl _) _).trans (hb.mono (by simp))
  rcases hown.2 with ⟨_, h2⟩ | ⟨g, cap', cur, hv, _, _, _⟩
  · simp at h2
  · injection hv with hA _ _
    subst hA
    exact ⟨g, cap, he, (hown.cellAt 0 (by decide)).trans rfl, hb2⟩
set_option maxHeartbeats 1000000 in
set_option maxRecDepth 100000 in
theorem fixed_any (w : World) : Calls Tryd.prog 16 #[] w fun e w' => e = .returned (.bool true) ∧ Below w.heap.size w w' := by
  go_enter Tryd.func16, Tryd.ntmps16
  go_wp2_with (go_at_call 41; (with_reducible refine (ex_call _).mono ?_); rintro e w1 ⟨g, cap, rfl, hc, hb⟩)
  go_ret
  exact ⟨rfl, hb⟩
set_option maxHeartbeats 1000000 in
set_option maxRecDepth 100000 in
theorem treeChecks_any (l : List FileB) (A : Option Addr) (c : Nat) (w : World) (hF : Files w w.heap.size A l) (hn : l.length ≤ 4611686018427387904) (hs : ∀ f ∈ l, f.1.size ≤ maxLen ∧ f.2.size ≤ maxLen) :
    Calls Tryd.prog 5 #[.slice A l.length c] w fun e w' => e = .returned (.bool true) ∧ Below w.heap.size w w' := by
  have hg := great_any l A c w hF hn hs
  cases hgr : greatL l with
  | true =>
    rw [hgr] at hg
    have HG := Lib.hid hg
    clear hg hgr hF hs
    go_enter Tryd.func5, Tryd.ntmps5
    go_wp2_with (first | (go_at_call 14; (with_reducible refine HG.out.mono ?_); rintro e w1 ⟨rfl, rfl⟩) | (go_at_call 16; (with_reducible refine (fixed_any _).mono ?_); rintro e w2 ⟨rfl, b2⟩))
    go_ret
    exact ⟨rfl, b2⟩
  | false =>
    rw [hgr] at hg
    obtain ⟨g1, g2⟩ := great_not hgr
    have hsm : Small l := ⟨by omega, g2⟩
    have ht := tcheck_any l A c w hF hsm
    have hr := fun w1 (hb : Below w.heap.size w w1) => rcheck_any l A c w1 ((hF.below hb (Nat.le_refl _)).more hb.size) hsm
    obtain ⟨C, hC⟩ : ∃ C, C = checkL l := ⟨_, rfl⟩
    rw [← hC] at ht hr
    have HG := Lib.hid hg
    have HT := Lib.hid ht
    have HR := Lib.hid hr
    clear hg hgr hF hs hC ht hr g1 g2 hsm
    go_enter Tryd.func5, Tryd.ntmps5
    go_wp2_with (first | (go_at_call 14; (with_reducible refine HG.out.mono ?_); rintro e w1 ⟨rfl, rfl⟩) | (go_at_call 25; (with_reducible refine HT.out.mono ?_); rintro e w1 ⟨rfl, b1⟩) | (go_at_call 15; (with_reducible refine (HR.out _ b1).mono ?_); rintro e w2 ⟨rfl, b2⟩; replace b2 := b1.trans (b2.mono b1.size)) | (go_at_call 16; (with_reducible refine (fixed_any _).mono ?_); rintro e w3 ⟨rfl, b3⟩; replace b3 := b2.trans (b3.mono b2.size)))
    go_ret
    exact ⟨by simp, b3⟩
end Go.Proofs.YtjpaajpjajoijaaDoor
