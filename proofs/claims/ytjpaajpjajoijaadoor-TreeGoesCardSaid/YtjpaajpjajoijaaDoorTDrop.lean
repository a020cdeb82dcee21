/- tree.Drop. -/
import Derived.Test.YtjpaajpjajoijaaDoorDel
import Derived.Test.YtjpaajpjajoijaaDoorCheck
namespace Go.Proofs.YtjpaajpjajoijaaDoor
set_option linter.unusedVariables false
open Go.RowKit
set_option maxHeartbeats 2000000 in
set_option maxRecDepth 100000 in
theorem tdrop_any (l : List FileB) (p : ByteArray) (A : Option Addr) (c : Nat) (w : World) (hF : Files w w.heap.size A l) (hs : Small l) (hl : l.length ≤ 1000) :
    Calls Tryd.prog 19 #[.slice A l.length c, .string p] w fun e w' => ∃ (A' : Option Addr) (cap : Nat), e = .returned (.slice A' (dropL l p).length cap) ∧
      w'.ownsRow w.heap.size 36 2 (.slice A' (dropL l p).length cap) (dropL l p).length (fcells (dropL l p)) ∧ Below w.heap.size w w' := by
  obtain ⟨W0, hW0⟩ : ∃ W0, W0 = w.alloc (.cells #[.string p] 9) := ⟨_, rfl⟩
  have hbox : Blk W0 w.heap.size 9 #[.string p] := by rw [hW0]; exact Blk.new w 9 #[.string p]
  have hz0 : W0.heap.size = w.heap.size + 1 := by rw [hW0, World.size_alloc]
  have hBw : Below w.heap.size w W0 := by rw [hW0]; exact (Below.refl _ _).alloc (Nat.le_refl _) _
  have hF0 : Files W0 W0.heap.size A l := (hF.below hBw (Nat.le_refl _)).more (by omega)
  have hck := tcheck_any l A c W0 hF0 hs
  have hcl := fun w' hb => clone_any l A c w' ((hF0.below hb (Nat.le_refl _)).more hb.size) hl
  have hcb : ∀ wr, Below W0.heap.size W0 wr → wr.cell? ⟨w.heap.size, 0, none⟩ = some (.string p) := fun wr hb => ((hbox.below hb (by omega)).cell 0).trans rfl
  have hpl : dropL l p = if checkL l = 0 then keptL l p else [] := rfl
  obtain ⟨P, hP⟩ : ∃ P, P = dropL l p := ⟨_, rfl⟩
  obtain ⟨C, hC⟩ : ∃ C, C = checkL l := ⟨_, rfl⟩
  rw [← hP, ← hC] at hpl
  rw [← hC] at hck
  rw [← hP]
  have HCK := Lib.hid hck
  have HCL := Lib.hid hcl
  have HCB := Lib.hid hcb
  have HW0 := Lib.hid hW0
  clear hck hcl hcb hW0 hF hF0 hbox hP hC
  by_cases hC0 : C = 0
  · rw [if_pos hC0] at hpl
    subst hC0
    have hdl := fun A' c' w' ho hb hc => deleteFunc_any l p A' c' W0.heap.size w.heap.size w' ho hb hc (by omega) hl
    rw [← hpl] at hdl
    have HD := Lib.hid hdl
    clear hpl hdl
    go_enter Tryd.func19, Tryd.ntmps19
    go_wp2_with fail
    rw [← HW0.out]
    go_wp2_with (first
      | (go_at_call 25; (with_reducible refine HCK.out.mono ?_); rintro e w1 ⟨rfl, b1⟩)
      | (go_at_call 49; (with_reducible refine (HCL.out w1 b1).mono ?_); rintro e w2 ⟨A2, cp2, rfl, own2, b2⟩; have own2' := own_more own2 b1.size; have b2' := b1.trans (b2.mono b1.size); have hc2 := HCB.out w2 b2'; have hs2 := b2'.size)
      | (go_at_call 48; (with_reducible refine (HD.out _ _ w2 own2' hs2 hc2).mono ?_); rintro e w3 ⟨A3, cp3, rfl, own3, b3⟩))
    go_ret
    exact ⟨_, _, rfl, own_more own3 (by omega), hBw.trans ((b2'.trans b3).mono (by omega))⟩
  · rw [if_neg hC0] at hpl
    have q1 : (C != 0) = true := bne_iff_ne.2 hC0
    subst hpl
    clear hC0
    go_enter Tryd.func19, Tryd.ntmps19
    go_wp2_with fail
    rw [← HW0.out]
    go_wp2_with (go_at_call 25; (with_reducible refine HCK.out.mono ?_); rintro e w1 ⟨rfl, b1⟩)
    go_ret
    exact ⟨none, 0, rfl, World.ownsRow_nil _ _ _ _, hBw.trans (b1.mono (by omega))⟩
end Go.Proofs.YtjpaajpjajoijaaDoor
