/- Files that rise by their paths: plain law. -/
import Derived.Test.YtjpaajpjajoijaaDoorRPaths
namespace Go.Proofs.YtjpaajpjajoijaaDoor
set_option linter.unusedVariables false
open Go.RowKit
theorem less_irrefl : ∀ a : List UInt8, Op.bytesLess a a = false
  | [] => rfl
  | a :: x => by
    unfold Op.bytesLess
    rw [less_irrefl x]
    simp
theorem less_trans : ∀ a b c : List UInt8, Op.bytesLess a b = true → Op.bytesLess b c = true → Op.bytesLess a c = true
  | _, _, [], _, h => by simp [Op.bytesLess] at h
  | _, [], _ :: _, h, _ => by simp [Op.bytesLess] at h
  | [], _ :: _, _ :: _, _, _ => rfl
  | a :: x, b :: y, c :: z, h1, h2 => by
    unfold Op.bytesLess at h1 h2 ⊢
    simp only [Bool.or_eq_true, decide_eq_true_eq, Bool.and_eq_true, beq_iff_eq] at h1 h2 ⊢
    rcases h1 with h1 | ⟨rfl, h1⟩
    · rcases h2 with h2 | ⟨rfl, h2⟩
      · exact .inl (UInt8.lt_trans h1 h2)
      · exact .inl h1
    · rcases h2 with h2 | ⟨rfl, h2⟩
      · exact .inl h2
      · exact .inr ⟨rfl, less_trans x y z h1 h2⟩
theorem less_total : ∀ a b : List UInt8, Op.bytesLess a b = false → Op.bytesLess b a = false → a = b
  | [], [], _, _ => rfl
  | [], _ :: _, h, _ => by simp [Op.bytesLess] at h
  | _ :: _, [], _, h => by simp [Op.bytesLess] at h
  | a :: x, b :: y, h1, h2 => by
    unfold Op.bytesLess at h1 h2
    simp only [Bool.or_eq_false_iff, decide_eq_false_iff_not, Bool.and_eq_false_iff, beq_eq_false_iff_ne] at h1 h2
    obtain ⟨n1, r1⟩ := h1
    obtain ⟨n2, r2⟩ := h2
    have e : a = b := UInt8.le_antisymm (UInt8.not_lt.1 n2) (UInt8.not_lt.1 n1)
    subst e
    rcases r1 with r1 | r1
    · exact absurd rfl r1
    · rcases r2 with r2 | r2
      · exact absurd rfl r2
      · rw [less_total x y r1 r2]
/-- One path ahead of another one. -/
def ltB (a b : ByteArray) : Bool := Op.bytesLess a.toList b.toList
theorem ltB_irrefl (a : ByteArray) : ltB a a = false := less_irrefl _
theorem ltB_trans {a b c : ByteArray} (h1 : ltB a b = true) (h2 : ltB b c = true) : ltB a c = true := less_trans _ _ _ h1 h2
theorem toList_inj {a b : ByteArray} (h : a.toList = b.toList) : a = b := by
  rw [ByteArray.toList_eq, ByteArray.toList_eq] at h
  exact ByteArray.ext (Array.toList_inj.1 h)
theorem ltB_total {a b : ByteArray} (h1 : ltB a b = false) (h2 : ltB b a = false) : a = b := toList_inj (less_total _ _ h1 h2)
theorem ltB_asymm {a b : ByteArray} (h : ltB a b = true) : ltB b a = false := by
  cases h2 : ltB b a with
  | false => rfl
  | true => have := ltB_trans h h2; rw [ltB_irrefl] at this; cases this
theorem ltB_ne {a b : ByteArray} (h : ltB a b = true) : a ≠ b := by
  rintro rfl
  rw [ltB_irrefl] at h
  cases h
theorem eqB_iff {a b : ByteArray} : (a.toList == b.toList) = true ↔ a = b := by
  rw [beq_iff_eq]
  exact ⟨toList_inj, fun h => by rw [h]⟩
theorem eqB_false {a b : ByteArray} (h : a ≠ b) : (a.toList == b.toList) = false := by
  rw [beq_eq_false_iff_ne]
  exact fun h2 => h (toList_inj h2)
/-- Files that rise. -/
def Rising (l : List FileB) : Prop := l.Pairwise fun f g => ltB f.1 g.1 = true
theorem lookF_some {f : FileB} {a : ByteArray} : lookF f (some a) = 0 ↔ bad7 f.1 = false ∧ ltB a f.1 = true := by
  constructor
  · intro h
    have hb := lookF_zero h
    refine ⟨hb, ?_⟩
    rw [lookF_next hb] at h
    by_cases he : (f.1.toList == a.toList) = true
    · rw [if_pos he] at h; exact absurd h (by decide)
    · rw [if_neg he] at h
      by_cases hl : Op.bytesLess f.1.toList a.toList = true
      · rw [if_pos hl] at h; exact absurd h (by decide)
      · cases hr : ltB a f.1 with
        | true => rfl
        | false =>
          rw [Bool.not_eq_true] at hl
          exact absurd (eqB_iff.2 (ltB_total (a := f.1) (b := a) hl hr)) he
  · rintro ⟨hb, hl⟩
    rw [lookF_next hb, if_neg (by rw [eqB_false (ltB_ne hl).symm]; simp), if_neg (by rw [show Op.bytesLess f.1.toList a.toList = false from ltB_asymm hl]; simp)]
theorem checkFrom_iff : ∀ (l : List FileB) (a : ByteArray), checkFrom (some a) l = 0 ↔ (∀ f ∈ l, bad7 f.1 = false ∧ ltB a f.1 = true) ∧ Rising l
  | [], a => by simp [checkFrom, Rising]
  | g :: l, a => by
    have ih := checkFrom_iff l g.1
    unfold checkFrom
    by_cases h0 : lookF g (some a) = 0
    · rw [if_pos h0, ih]
      obtain ⟨hb, hl⟩ := lookF_some.1 h0
      unfold Rising
      rw [List.pairwise_cons]
      constructor
      · rintro ⟨h1, h2⟩
        exact ⟨fun f hf => by
          rcases List.mem_cons.1 hf with rfl | hf
          · exact ⟨hb, hl⟩
          · exact ⟨(h1 f hf).1, ltB_trans hl (h1 f hf).2⟩, fun f hf => (h1 f hf).2, h2⟩
      · rintro ⟨h1, h2, h3⟩
        exact ⟨fun f hf => ⟨(h1 f (by simp [hf])).1, h2 f hf⟩, h3⟩
    · rw [if_neg h0]
      constructor
      · intro h; exact absurd h h0
      · rintro ⟨h1, _⟩
        exact absurd (lookF_some.2 (h1 g (by simp))) h0
/-- Files are a tree just where each path is one for a file, and they rise. -/
theorem checkL_iff (l : List FileB) : checkL l = 0 ↔ (∀ f ∈ l, bad7 f.1 = false) ∧ Rising l := by
  cases l with
  | nil => simp [checkL, checkFrom, Rising]
  | cons g l =>
    have ih := checkFrom_iff l g.1
    unfold checkL checkFrom
    by_cases hb : bad7 g.1 = false
    · rw [if_pos (lookF_first hb), ih]
      unfold Rising
      rw [List.pairwise_cons]
      constructor
      · rintro ⟨h1, h2⟩
        exact ⟨fun f hf => by
          rcases List.mem_cons.1 hf with rfl | hf
          · exact hb
          · exact (h1 f hf).1, fun f hf => (h1 f hf).2, h2⟩
      · rintro ⟨h1, h2, h3⟩
        exact ⟨fun f hf => ⟨h1 f (by simp [hf]), h2 f hf⟩, h3⟩
    · rw [Bool.not_eq_false] at hb
      rw [if_neg (by rw [lookF_bad hb]; decide)]
      constructor
      · intro h; rw [lookF_bad hb] at h; exact absurd h (by decide)
      · rintro ⟨h1, _⟩
        rw [h1 g (by simp)] at hb
        cases hb
/-- Two lists that rise by a key and have the same members are one. -/
theorem rising_eq {α : Type} {r : α → α → Prop} (hirr : ∀ x, ¬ r x x) (has : ∀ x y, r x y → ¬ r y x) : ∀ (l m : List α), l.Pairwise r → m.Pairwise r → (∀ x, x ∈ l ↔ x ∈ m) → l = m
  | [], [], _, _, _ => rfl
  | [], y :: m, _, _, h => by have := (h y).2 (by simp); cases this
  | x :: l, [], _, _, h => by have := (h x).1 (by simp); cases this
  | x :: l, y :: m, hl, hm, h => by
    rw [List.pairwise_cons] at hl hm
    have hxy : x = y := by
      rcases List.mem_cons.1 ((h x).1 (by simp)) with e | hx
      · exact e
      · rcases List.mem_cons.1 ((h y).2 (by simp)) with e | hy
        · exact e.symm
        · exact absurd (hl.1 y hy) (has _ _ (hm.1 x hx))
    subst hxy
    rw [rising_eq hirr has l m hl.2 hm.2 (fun z => ?_)]
    constructor
    · intro hz
      rcases List.mem_cons.1 ((h z).1 (by simp [hz])) with rfl | h2
      · exact absurd (hl.1 z hz) (hirr z)
      · exact h2
    · intro hz
      rcases List.mem_cons.1 ((h z).2 (by simp [hz])) with rfl | h2
      · exact absurd (hm.1 z hz) (hirr z)
      · exact h2
theorem rising_files {l m : List FileB} (hl : Rising l) (hm : Rising m) (h : ∀ x, x ∈ l ↔ x ∈ m) : l = m :=
  rising_eq (fun x => by rw [ltB_irrefl]; simp) (fun x y hxy => by rw [ltB_asymm hxy]; simp) l m hl hm h
/-- Of files that rise there is one at a path. -/
theorem rising_unique {l : List FileB} (hl : Rising l) {f g : FileB} (hf : f ∈ l) (hg : g ∈ l) (he : f.1 = g.1) : f = g := by
  induction l with
  | nil => cases hf
  | cons x l ih =>
    have h := List.pairwise_cons.1 hl
    rcases List.mem_cons.1 hf with rfl | hf'
    · rcases List.mem_cons.1 hg with rfl | hg'
      · rfl
      · have := ltB_ne (h.1 g hg'); exact absurd he this
    · rcases List.mem_cons.1 hg with rfl | hg'
      · have := ltB_ne (h.1 f hf'); exact absurd he.symm this
      · exact ih h.2 hf' hg'
end Go.Proofs.YtjpaajpjajoijaaDoor
