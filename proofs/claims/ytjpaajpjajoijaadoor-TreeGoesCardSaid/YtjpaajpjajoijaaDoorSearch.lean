/- tree.compare; slices.BinarySearchFunc. -/
import Derived.Test.YtjpaajpjajoijaaDoorClone
import Derived.Test.YtjpaajpjajoijaaDoorShelf
import Derived.Deep.LoopGhost
namespace Go.Proofs.YtjpaajpjajoijaaDoor
set_option linter.unusedVariables false
open Go.RowKit
theorem compareBytes_cases : ∀ a b : List UInt8, (Op.bytesLess a b = true ∧ Lib.compareBytes a b = -1) ∨ (a = b ∧ Lib.compareBytes a b = 0) ∨ (Op.bytesLess b a = true ∧ Lib.compareBytes a b = 1)
  | [], [] => .inr (.inl ⟨rfl, rfl⟩)
  | [], _ :: _ => .inl ⟨rfl, rfl⟩
  | _ :: _, [] => .inr (.inr ⟨rfl, rfl⟩)
  | x :: a, y :: b => by
    unfold Lib.compareBytes Op.bytesLess
    by_cases h1 : x < y
    · exact .inl (by simp [h1])
    · by_cases h2 : y < x
      · exact .inr (.inr (by simp [h1, h2]))
      · have he : x = y := by
          apply UInt8.toNat_inj.1
          rw [UInt8.lt_iff_toNat_lt] at h1 h2
          omega
        subst he
        rcases compareBytes_cases a b with ⟨h, e⟩ | ⟨h, e⟩ | ⟨h, e⟩
        · exact .inl (by simp [h1, h, e])
        · exact .inr (.inl (by simp [h1, h]; rw [← h]; rw [h] at e ⊢; exact e))
        · exact .inr (.inr (by simp [h1, h, e]))
/-- How a path stands to another one. -/
def cmpB (a b : ByteArray) : Int := Lib.compareBytes a.data.toList b.data.toList
theorem cmpB_cases (a b : ByteArray) : (ltB a b = true ∧ cmpB a b = -1) ∨ (a = b ∧ cmpB a b = 0) ∨ (ltB b a = true ∧ cmpB a b = 1) := by
  unfold ltB cmpB
  rw [ByteArray.toList_eq, ByteArray.toList_eq]
  rcases compareBytes_cases a.data.toList b.data.toList with h | h | h
  · exact .inl h
  · exact .inr (.inl ⟨ByteArray.ext (Array.toList_inj.1 h.1), h.2⟩)
  · exact .inr (.inr h)
theorem cmpB_lt {a b : ByteArray} : cmpB a b < 0 ↔ ltB a b = true := by
  rcases cmpB_cases a b with ⟨h, e⟩ | ⟨h, e⟩ | ⟨h, e⟩
  · rw [e, h]; simp
  · rw [e, h, ltB_irrefl]; simp
  · rw [e, ltB_asymm h]; simp
theorem cmpB_eq {a b : ByteArray} : cmpB a b = 0 ↔ a = b := by
  rcases cmpB_cases a b with ⟨h, e⟩ | ⟨h, e⟩ | ⟨h, e⟩
  · rw [e]; simp [ltB_ne h]
  · rw [e]; simp [h]
  · rw [e]; simp [(ltB_ne h).symm]
theorem compare_any (f : FileB) (p : ByteArray) (w : World) :
    Calls Tryd.prog 52 #[.agg #[.string f.1, .string f.2], .string p] w fun e w' => e = .returned (.int .i64 (cmpB f.1 p)) ∧ Below w.heap.size w w' := by
  have hc := fun w' => Tryd.strings_Compare f.1 p w'
  unfold cmpB
  go_enter Tryd.func52, Tryd.ntmps52
  go_wp2_with (go_at_call 67; (with_reducible refine (hc _).mono ?_); rintro e w1 ⟨rfl, rfl⟩)
  go_ret
  exact ⟨rfl, (Below.refl _ _).alloc (Nat.le_refl _) _⟩
/-- The place of a path among files that rise. -/
structure Place (l : List FileB) (p : ByteArray) (i : Nat) : Prop where
  le : i ≤ l.length
  less : ∀ j f, l[j]? = some f → j < i → ltB f.1 p = true
  more : ∀ j f, l[j]? = some f → i ≤ j → ltB f.1 p = false
def isAt (l : List FileB) (p : ByteArray) (i : Nat) : Bool := match l[i]? with
  | some f => decide (cmpB f.1 p = 0)
  | none => false
theorem rising_get {l : List FileB} (h : Rising l) {i j : Nat} {f g : FileB} (hi : l[i]? = some f) (hj : l[j]? = some g) (hij : i < j) : ltB f.1 g.1 = true := by
  obtain ⟨h1, h2⟩ := List.getElem?_eq_some_iff.1 hi
  obtain ⟨h3, h4⟩ := List.getElem?_eq_some_iff.1 hj
  rw [← h2, ← h4]
  exact List.pairwise_iff_getElem.1 h i j h1 h3 hij
set_option maxHeartbeats 4000000 in
set_option maxRecDepth 100000 in
theorem bsearch_any (l : List FileB) (p : ByteArray) (A : Option Addr) (c : Nat) (w : World) (hF : Files w w.heap.size A l) (hn : l.length ≤ 4611686018427387903) (hR : Rising l) :
    Calls Tryd.prog 51 #[.slice A l.length c, .string p, .func (.func 52) #[] #[]] w fun e w' => ∃ i, Place l p i ∧ e = .returned (.tuple #[.int .i64 (i : Nat), .bool (isAt l p i)]) ∧ Below w.heap.size w w' := by
  have hcmp := fun f w' => compare_any f p w'
  have mixed : Tryd.prog.follows Departure.mixedOrders = true := by kernel_rfl
  have HC := Lib.hid hcmp
  have HF := Lib.hid hF
  have HR := Lib.hid hR
  clear hcmp hF hR
  go_enter Tryd.func51, Tryd.ntmps51
  go_wp2
  go_loopg [9, 10, 11] l.length (fun kx s9 s10 _ wr => ∃ lo hi : Nat, s9 = .int .i64 lo ∧ s10 = .int .i64 hi ∧ lo ≤ hi ∧ hi ≤ l.length ∧ hi - lo ≤ kx ∧ Below w.heap.size w wr ∧
    Hid ((∀ j f, l[j]? = some f → j < lo → ltB f.1 p = true) ∧ (∀ j f, l[j]? = some f → hi ≤ j → ltB f.1 p = false)))
  case atStart => exact ⟨0, l.length, rfl, rfl, Nat.zero_le _, Nat.le_refl _, by omega, Below.refl _ _, Lib.hid ⟨fun j f _ h => absurd h (Nat.not_lt_zero _), fun j f hj h => by have := (List.getElem?_eq_some_iff.1 hj).1; omega⟩⟩
  case round =>
    obtain ⟨lo, hi, rfl, rfl, hlh, hin, hg, hB, I⟩ := hrel
    have hsz := hB.size
    by_cases hlt : lo < hi
    · obtain ⟨h, hh⟩ : ∃ h, h = (lo + hi) / 2 := ⟨_, rfl⟩
      have hhl : h < l.length := by omega
      obtain ⟨a, rfl, hab, hc⟩ := (HF.out.below hB (Nat.le_refl _)) (by omega)
      obtain ⟨c1, c2⟩ := hc h l[h] (List.getElem?_eq_getElem hhl)
      have hlf : l[h]? = some l[h] := List.getElem?_eq_getElem hhl
      obtain ⟨f, hf⟩ : ∃ f, f = l[h] := ⟨_, rfl⟩
      rw [← hf] at c1 c2 hlf
      have HL := Lib.hid hlf
      have hpr := HC.out f
      have hq := cmpB_lt (a := f.1) (b := p)
      obtain ⟨C, hCe⟩ : ∃ C, C = cmpB f.1 p := ⟨_, rfl⟩
      rw [← hCe] at hpr hq
      have HPR := Lib.hid hpr
      have HQ := Lib.hid hq
      clear hf hc hlf hpr hq
      rw [hh] at c1 c2
      by_cases hyx : C < 0
      · go_wp2_with (go_at_call 52; (with_reducible refine (HPR.out _).mono ?_); rintro e w1 ⟨rfl, b1⟩)
        go_roundg (hi - ((lo + hi) / 2 + 1))
        case measure => omega
        case rel =>
          have hle : ltB f.1 p = true := HQ.out.1 hyx
          exact ⟨(lo + hi) / 2 + 1, hi, by rw [show ((lo : Int) + (hi : Int)) / 2 + 1 = (((lo + hi) / 2 + 1 : Nat) : Int) by omega], rfl, by omega, hin, Nat.le_refl _, hB.trans (b1.mono hsz), Lib.hid ⟨fun j g hj hjl => by
            rcases Nat.lt_or_ge j h with h1 | h1
            · exact ltB_trans (rising_get HR.out hj HL.out h1) hle
            · have : j = h := by omega
              subst this
              rw [HL.out] at hj
              cases hj
              exact hle, I.out.2⟩⟩
      · go_wp2_with (go_at_call 52; (with_reducible refine (HPR.out _).mono ?_); rintro e w1 ⟨rfl, b1⟩)
        go_roundg ((lo + hi) / 2 - lo)
        case measure => omega
        case rel =>
          have hle : ltB f.1 p = false := by
            cases hq : ltB f.1 p with
            | false => rfl
            | true => have := HQ.out.2 hq; omega
          exact ⟨lo, (lo + hi) / 2, rfl, by rw [show ((lo : Int) + (hi : Int)) / 2 = (((lo + hi) / 2 : Nat) : Int) by omega], by omega, by omega, Nat.le_refl _, hB.trans (b1.mono hsz), Lib.hid ⟨I.out.1, fun j g hj hjl => by
            rcases Nat.lt_or_ge h j with h1 | h1
            · cases hq : ltB g.1 p with
              | false => rfl
              | true => rw [ltB_trans (rising_get HR.out HL.out hj h1) hq] at hle; cases hle
            · have : j = h := by omega
              subst this
              rw [HL.out] at hj
              cases hj
              exact hle⟩⟩
    · obtain rfl : hi = lo := by omega
      have hP : Place l p hi := ⟨hin, I.out.1, I.out.2⟩
      have HP := Lib.hid hP
      clear hP
      by_cases hx : hi < l.length
      · obtain ⟨a, rfl, hab, hc⟩ := (HF.out.below hB (Nat.le_refl _)) (by omega)
        obtain ⟨c1, c2⟩ := hc hi l[hi] (List.getElem?_eq_getElem hx)
        have hlf : l[hi]? = some l[hi] := List.getElem?_eq_getElem hx
        obtain ⟨f, hf⟩ : ∃ f, f = l[hi] := ⟨_, rfl⟩
        rw [← hf] at c1 c2 hlf
        have hia : isAt l p hi = decide (cmpB f.1 p = 0) := by unfold isAt; rw [hlf]
        have hpr := HC.out f
        obtain ⟨C, hCe⟩ : ∃ C, C = cmpB f.1 p := ⟨_, rfl⟩
        rw [← hCe] at hpr hia
        have HPR := Lib.hid hpr
        have HIA := Lib.hid hia
        clear hf hc hlf hpr hia hCe
        by_cases hyx : C = 0
        · go_wp2_with (go_at_call 52; (with_reducible refine (HPR.out _).mono ?_); rintro e w1 ⟨rfl, b1⟩)
          go_ret2
          exact ⟨hi, HP.out, by rw [HIA.out]; simp [hyx], hB.trans (b1.mono hsz)⟩
        · go_wp2_with (go_at_call 52; (with_reducible refine (HPR.out _).mono ?_); rintro e w1 ⟨rfl, b1⟩)
          go_ret2
          exact ⟨hi, HP.out, by rw [HIA.out]; simp [hyx], hB.trans (b1.mono hsz)⟩
      · have hia : isAt l p hi = false := by unfold isAt; rw [List.getElem?_eq_none (by omega)]
        have HIA := Lib.hid hia
        clear hia
        go_wp2
        go_ret2
        exact ⟨hi, HP.out, by rw [HIA.out]; rfl, hB⟩
end Go.Proofs.YtjpaajpjajoijaaDoor
