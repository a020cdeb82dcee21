/- tree.look, tree.Check, bloomeryref05.Check: why files are no tree. -/
import Derived.Test.YtjpaajpjajoijaaDoorFiles
namespace Go.Proofs.YtjpaajpjajoijaaDoor
set_option linter.unusedVariables false
open Go.RowKit
/-- The text 'out'. -/
def outB : ByteArray := ⟨#[111, 117, 116]⟩
/-- Not a file's path. -/
def bad7 (p : ByteArray) : Bool := !okPath p.data.toList || (p.toList == [111, 117, 116] || underL p.data.toList [111, 117, 116])
/-- A file, behind the path of the one ahead. -/
def lookF (f : FileB) (ahead : Option ByteArray) : Int :=
  if bad7 f.1 then 7 else match ahead with
    | none => 0
    | some a => if f.1.toList == a.toList then 8 else if Op.bytesLess f.1.toList a.toList then 2 else 0
def checkFrom (ahead : Option ByteArray) : List FileB → Int
  | [] => 0
  | f :: l => if lookF f ahead = 0 then checkFrom (some f.1) l else lookF f ahead
/-- Why small files are no tree. -/
def checkL (l : List FileB) : Int := checkFrom none l
/-- Small files. -/
def Small (l : List FileB) : Prop := l.length ≤ 1000 ∧ ∀ f ∈ l, f.1.size ≤ 300 ∧ f.2.size ≤ 300
set_option maxHeartbeats 1000000 in
set_option maxRecDepth 100000 in
theorem look_any (f : FileB) (a : ByteArray) (b : Bool) (w : World) (h1 : f.1.size ≤ 300) (h2 : f.2.size ≤ 300) :
    Calls Tryd.prog 58 #[.agg #[.string f.1, .string f.2], .string a, .bool b] w fun e w' => e = .returned (.int .i64 (lookF f (if b then none else some a))) ∧ Below w.heap.size w w' := by
  have hm := fun w => pmay_any f.1 w (by omega)
  have hu := fun w => punder_any f.1 ⟨#[111, 117, 116]⟩ w (by omega) (by decide)
  have hl : lookF f (if b then none else some a) = lookF f (if b then none else some a) := rfl
  conv at hl => rhs; unfold lookF bad7
  obtain ⟨p, d⟩ := f
  simp only at hm hu hl h1 h2 ⊢
  obtain ⟨L, hL⟩ : ∃ L, L = lookF (p, d) (if b then none else some a) := ⟨_, rfl⟩
  rw [← hL] at hl ⊢
  clear hL
  obtain ⟨ok, hok⟩ : ∃ ok, ok = okPath p.data.toList := ⟨_, rfl⟩
  obtain ⟨un, hun⟩ : ∃ un, un = underL p.data.toList [111, 117, 116] := ⟨_, rfl⟩
  rw [← hun] at hu
  rw [← hok] at hm
  rw [← hok, ← hun] at hl
  clear hok hun
  have hbox := Blk.new w 36 #[.string p, .string d]
  have hc : ∀ w1, Below (w.heap.size + 1) (w.alloc (.cells #[.string p, .string d] 36)) w1 → w1.cell? ⟨w.heap.size, 0, none⟩ = some (.string p) ∧ w1.cell? ⟨w.heap.size, 1, none⟩ = some (.string d) := fun w1 hb =>
    ⟨((hbox.below hb (by omega)).cell 0).trans rfl, ((hbox.below hb (by omega)).cell 1).trans rfl⟩
  have hB0 : Below w.heap.size w (w.alloc (.cells #[.string p, .string d] 36)) := (Below.refl _ _).alloc (Nat.le_refl _) _
  have HC := Lib.hid hc
  clear hc hbox
  cases ok with
  | false =>
    have HM := Lib.hid hm
    have HL := Lib.hid hl
    clear hm hu hl
    go_enter Tryd.func58, Tryd.ntmps58
    go_wp2_with (go_at_call 27; (with_reducible refine (HM.out _).mono ?_); rintro e w1 ⟨rfl, b1⟩)
    go_ret
    exact ⟨by rw [HL.out]; rfl, hB0.trans (b1.mono (by simp))⟩
  | true =>
    cases ho : p.toList == [111, 117, 116] with
    | true =>
      have o1 : p.toList = [111, 117, 116] := beq_iff_eq.1 ho
      rw [ho] at hl
      have HM := Lib.hid hm
      have HL := Lib.hid hl
      clear hm hu hl
      go_enter Tryd.func58, Tryd.ntmps58
      go_wp2_with (go_at_call 27; (with_reducible refine (HM.out _).mono ?_); rintro e w1 ⟨rfl, b1⟩; simp only [World.size_alloc] at b1; obtain ⟨k0, k1⟩ := HC.out w1 b1)
      go_ret
      exact ⟨by rw [HL.out]; rfl, hB0.trans (b1.mono (by simp))⟩
    | false =>
      have o1 : ¬ p.toList = [111, 117, 116] := beq_eq_false_iff_ne.1 ho
      rw [ho] at hl
      cases un with
      | true =>
        have HM := Lib.hid hm
        have HL := Lib.hid hl
        have HU := Lib.hid hu
        clear hm hu hl
        go_enter Tryd.func58, Tryd.ntmps58
        go_wp2_with (first | (go_at_call 27; (with_reducible refine (HM.out _).mono ?_); rintro e w1 ⟨rfl, b1⟩; simp only [World.size_alloc] at b1; obtain ⟨k0, k1⟩ := HC.out w1 b1) | (go_at_call 30; (with_reducible refine (HU.out _).mono ?_); rintro e w2 ⟨rfl, b2⟩; replace b2 := b1.trans (b2.mono (by have := b1.size; simpa using this)); obtain ⟨k2, k3⟩ := HC.out w2 b2))
        go_ret
        exact ⟨by rw [HL.out]; rfl, hB0.trans (b2.mono (by simp))⟩
      | false =>
        have q1 : ¬ 65536 < d.size := by omega
        cases b with
        | true =>
          have HM := Lib.hid hm
          have HL := Lib.hid hl
          have HU := Lib.hid hu
          clear hm hu hl
          go_enter Tryd.func58, Tryd.ntmps58
          go_wp2_with (first | (go_at_call 27; (with_reducible refine (HM.out _).mono ?_); rintro e w1 ⟨rfl, b1⟩; simp only [World.size_alloc] at b1; obtain ⟨k0, k1⟩ := HC.out w1 b1) | (go_at_call 30; (with_reducible refine (HU.out _).mono ?_); rintro e w2 ⟨rfl, b2⟩; replace b2 := b1.trans (b2.mono (by have := b1.size; simpa using this)); obtain ⟨k2, k3⟩ := HC.out w2 b2))
          go_ret
          exact ⟨by rw [HL.out]; rfl, hB0.trans (b2.mono (by simp))⟩
        | false =>
          replace hl : L = (if (p.toList == a.toList) = true then 8 else if Op.bytesLess p.toList a.toList = true then 2 else 0) := by rw [hl]; rfl
          cases he : p.toList == a.toList with
          | true =>
            have e1 : p.toList = a.toList := beq_iff_eq.1 he
            rw [he] at hl
            have HM := Lib.hid hm
            have HL := Lib.hid hl
            have HU := Lib.hid hu
            have E1 := Lib.hid e1
            clear hm hu hl e1
            go_enter Tryd.func58, Tryd.ntmps58
            go_wp2_with (first | (go_at_call 27; (with_reducible refine (HM.out _).mono ?_); rintro e w1 ⟨rfl, b1⟩; simp only [World.size_alloc] at b1; obtain ⟨k0, k1⟩ := HC.out w1 b1) | (go_at_call 30; (with_reducible refine (HU.out _).mono ?_); rintro e w2 ⟨rfl, b2⟩; replace b2 := b1.trans (b2.mono (by have := b1.size; simpa using this)); obtain ⟨k2, k3⟩ := HC.out w2 b2))
            go_ret
            exact ⟨by rw [HL.out]; rfl, hB0.trans (b2.mono (by simp))⟩
          | false =>
            have e1 : ¬ p.toList = a.toList := beq_eq_false_iff_ne.1 he
            rw [he] at hl
            cases hls : Op.bytesLess p.toList a.toList with
            | true =>
              rw [hls] at hl
              have HM := Lib.hid hm
              have HL := Lib.hid hl
              have HU := Lib.hid hu
              clear hm hu hl
              go_enter Tryd.func58, Tryd.ntmps58
              go_wp2_with (first | (go_at_call 27; (with_reducible refine (HM.out _).mono ?_); rintro e w1 ⟨rfl, b1⟩; simp only [World.size_alloc] at b1; obtain ⟨k0, k1⟩ := HC.out w1 b1) | (go_at_call 30; (with_reducible refine (HU.out _).mono ?_); rintro e w2 ⟨rfl, b2⟩; replace b2 := b1.trans (b2.mono (by have := b1.size; simpa using this)); obtain ⟨k2, k3⟩ := HC.out w2 b2))
              go_ret
              exact ⟨by rw [HL.out]; rfl, hB0.trans (b2.mono (by simp))⟩
            | false =>
              rw [hls] at hl
              have HM := Lib.hid hm
              have HL := Lib.hid hl
              have HU := Lib.hid hu
              clear hm hu hl
              go_enter Tryd.func58, Tryd.ntmps58
              go_wp2_with (first | (go_at_call 27; (with_reducible refine (HM.out _).mono ?_); rintro e w1 ⟨rfl, b1⟩; simp only [World.size_alloc] at b1; obtain ⟨k0, k1⟩ := HC.out w1 b1) | (go_at_call 30; (with_reducible refine (HU.out _).mono ?_); rintro e w2 ⟨rfl, b2⟩; replace b2 := b1.trans (b2.mono (by have := b1.size; simpa using this)); obtain ⟨k2, k3⟩ := HC.out w2 b2))
              go_ret
              exact ⟨by rw [HL.out]; rfl, hB0.trans (b2.mono (by simp))⟩
end Go.Proofs.YtjpaajpjajoijaaDoor
