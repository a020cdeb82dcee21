/- The two ways to tell what became of files are one. -/
import Derived.Test.YtjpaajpjajoijaaDoorDiffL
namespace Go.Proofs.YtjpaajpjajoijaaDoor
set_option linter.unusedVariables false
theorem told_path {a b : List FileB} {p : ByteArray} {c : Chg} (h : told a b p = some c) : c.1 = p ∧ c.2 = kindR a b p ∧ 0 < kindR a b p := by
  unfold told at h
  split at h
  · cases h
    exact ⟨rfl, rfl, by assumption⟩
  · cases h
theorem diffR_mem {a b : List FileB} (ha : Rising a) (hb : Rising b) (c : Chg) : c ∈ diffR a b ↔ (inOne a b c.1 ∧ told a b c.1 = some c) := by
  unfold diffR
  rw [List.mem_filterMap]
  constructor
  · rintro ⟨f, hf, ht⟩
    obtain ⟨h1, _, _⟩ := told_path ht
    refine ⟨?_, by rw [h1]; exact ht⟩
    have := ((allL_mem b a ha).2 f.1).1 ⟨f, hf, rfl⟩
    rw [h1]
    exact this
  · rintro ⟨h1, h2⟩
    obtain ⟨f, hf, he⟩ := ((allL_mem b a ha).2 c.1).2 h1
    exact ⟨f, hf, by rw [he]; exact h2⟩
/-- Changes that rise. -/
def RisingC (l : List Chg) : Prop := l.Pairwise fun c d => ltB c.1 d.1 = true
theorem diffR_rising {a b : List FileB} (ha : Rising a) : RisingC (diffR a b) := by
  have h := (allL_mem b a ha).1
  unfold diffR
  generalize allL a b = l at h
  induction l with
  | nil => exact List.Pairwise.nil
  | cons f l ih =>
    have h1 := List.pairwise_cons.1 h
    have ih' := ih h1.2
    rw [List.filterMap_cons]
    cases ht : told a b f.1 with
    | none => exact ih'
    | some c =>
      refine List.pairwise_cons.2 ⟨fun d hd => ?_, ih'⟩
      obtain ⟨g, hg, hd2⟩ := List.mem_filterMap.1 hd
      rw [(told_path ht).1, (told_path hd2).1]
      exact h1.1 g hg
theorem diffT_rising : ∀ (n : Nat) (a b : List FileB), a.length + b.length = n → Rising a → Rising b → RisingC (diffT a b) := by
  intro n
  induction n using Nat.strongRecOn with
  | _ n ih =>
    intro a b hn ha hb
    have gone : ∀ x a', a = x :: a' → (b = [] ∨ ∃ y b', b = y :: b' ∧ ltB x.1 y.1 = true) → RisingC (diffT a b) := by
      rintro x a' rfl hxb
      have hlt : ∀ g ∈ b, ltB x.1 g.1 = true := by
        rcases hxb with rfl | ⟨y, b', rfl, h⟩
        · intro g hg; cases hg
        · intro g hg
          rcases List.mem_cons.1 hg with rfl | hg
          · exact h
          · exact ltB_trans h (ltB_head hb g hg)
      have ha' : Rising a' := (List.pairwise_cons.1 ha).2
      rw [diffT_gone hxb]
      refine List.pairwise_cons.2 ⟨fun d hd => ?_, ih (a'.length + b.length) (by rw [← hn]; simp) a' b rfl ha' hb⟩
      rcases ((diffT_mem _ a' b rfl ha' hb d).1 hd).1 with ⟨g, hg, he⟩ | ⟨g, hg, he⟩
      · rw [← he]; exact ltB_head ha g hg
      · rw [← he]; exact hlt g hg
    have added : ∀ y b', b = y :: b' → (a = [] ∨ ∃ x a', a = x :: a' ∧ ltB x.1 y.1 = false ∧ ltB y.1 x.1 = true) → RisingC (diffT a b) := by
      rintro y b' rfl hxb
      have hlt : ∀ g ∈ a, ltB y.1 g.1 = true := by
        rcases hxb with rfl | ⟨x, a', rfl, _, h⟩
        · intro g hg; cases hg
        · intro g hg
          rcases List.mem_cons.1 hg with rfl | hg
          · exact h
          · exact ltB_trans h (ltB_head ha g hg)
      have hb' : Rising b' := (List.pairwise_cons.1 hb).2
      rw [diffT_added hxb]
      refine List.pairwise_cons.2 ⟨fun d hd => ?_, ih (a.length + b'.length) (by rw [← hn]; simp) a b' rfl ha hb'⟩
      rcases ((diffT_mem _ a b' rfl ha hb' d).1 hd).1 with ⟨g, hg, he⟩ | ⟨g, hg, he⟩
      · rw [← he]; exact hlt g hg
      · rw [← he]; exact ltB_head hb g hg
    cases a with
    | nil =>
      cases b with
      | nil => rw [diffT]; exact List.Pairwise.nil
      | cons y b => exact added y b rfl (.inl rfl)
    | cons x a =>
      cases b with
      | nil => exact gone x a rfl (.inl rfl)
      | cons y b =>
        cases h1 : ltB x.1 y.1 with
        | true => exact gone x a rfl (.inr ⟨y, b, rfl, h1⟩)
        | false =>
          cases h2 : ltB y.1 x.1 with
          | true => exact added y b rfl (.inr ⟨x, a, rfl, h1, h2⟩)
          | false =>
            have he : x.1 = y.1 := ltB_total h1 h2
            have ha' : Rising a := (List.pairwise_cons.1 ha).2
            have hb' : Rising b := (List.pairwise_cons.1 hb).2
            have IH := ih (a.length + b.length) (by rw [← hn]; simp; omega) a b rfl ha' hb'
            rw [diffT_both h1 h2]
            cases x.2.toList != y.2.toList with
            | false => exact IH
            | true =>
              refine List.pairwise_cons.2 ⟨fun d hd => ?_, IH⟩
              rcases ((diffT_mem _ a b rfl ha' hb' d).1 hd).1 with ⟨g, hg, he2⟩ | ⟨g, hg, he2⟩
              · rw [← he2]; exact ltB_head ha g hg
              · rw [← he2, he]; exact ltB_head hb g hg
theorem diff_eq {a b : List FileB} (ha : Rising a) (hb : Rising b) : diffT a b = diffR a b :=
  rising_eq (r := fun c d : Chg => ltB c.1 d.1 = true) (fun x h => by rw [ltB_irrefl] at h; cases h) (fun x y h h2 => by rw [ltB_asymm h] at h2; cases h2) _ _ (diffT_rising _ a b rfl ha hb) (diffR_rising ha) fun c => by
    rw [diffT_mem _ a b rfl ha hb, diffR_mem ha hb]
theorem diffT_self : ∀ a : List FileB, diffT a a = []
  | [] => by rw [diffT]; rfl
  | x :: a => by
    rw [diffT_both (ltB_irrefl _) (ltB_irrefl _), diffT_self a]
    simp
/-- No more changes than files. -/
theorem diffT_len : ∀ (n : Nat) (a b : List FileB), a.length + b.length = n → (diffT a b).length ≤ n := by
  intro n
  induction n using Nat.strongRecOn with
  | _ n ih =>
    intro a b hn
    cases a with
    | nil => rw [diffT, List.length_map]; simp at hn; omega
    | cons x a =>
      cases b with
      | nil => rw [diffT, List.length_map]; simp at hn ⊢; omega
      | cons y b =>
        cases h1 : ltB x.1 y.1 with
        | true =>
          rw [diffT_gone (.inr ⟨y, b, rfl, h1⟩), List.length_cons]
          have := ih (a.length + (y :: b).length) (by rw [← hn]; simp) a (y :: b) rfl
          simp at this hn ⊢
          omega
        | false =>
          cases h2 : ltB y.1 x.1 with
          | true =>
            rw [diffT_added (.inr ⟨x, a, rfl, h1, h2⟩), List.length_cons]
            have := ih ((x :: a).length + b.length) (by rw [← hn]; simp) (x :: a) b rfl
            simp at this hn ⊢
            omega
          | false =>
            rw [diffT_both h1 h2, List.length_append]
            have := ih (a.length + b.length) (by rw [← hn]; simp; omega) a b rfl
            have h3 : (if (x.2.toList != y.2.toList) = true then [(x.1, 3)] else ([] : List Chg)).length ≤ 1 := by split <;> simp
            simp at this hn ⊢
            simp at h3
            omega
end Go.Proofs.YtjpaajpjajoijaaDoor
