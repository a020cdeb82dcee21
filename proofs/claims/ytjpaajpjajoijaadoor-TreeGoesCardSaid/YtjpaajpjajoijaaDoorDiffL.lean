/- What became of files: the two ways to tell it, in plain lists. -/
import Derived.Test.YtjpaajpjajoijaaDoorGet
import Derived.Test.YtjpaajpjajoijaaDoorWithL
namespace Go.Proofs.YtjpaajpjajoijaaDoor
set_option linter.unusedVariables false
/-- A change: a path and its kind. -/
abbrev Chg := ByteArray × Nat
theorem getL_nil (p : ByteArray) : getL [] p = none := rfl
theorem getL_cons (x : FileB) (l : List FileB) (p : ByteArray) : getL (x :: l) p = if x.1 = p then some x.2 else getL l p := by
  unfold getL
  by_cases h : x.1 = p
  · rw [if_pos h, List.find?_cons_of_pos (by unfold isP; exact eqB_iff.2 h)]
    rfl
  · rw [if_neg h, List.find?_cons_of_neg (by unfold isP; rw [eqB_iff]; exact h)]
theorem getL_none {l : List FileB} {p : ByteArray} (h : ∀ g ∈ l, g.1 ≠ p) : getL l p = none := by
  induction l with
  | nil => rfl
  | cons x l ih =>
    rw [getL_cons, if_neg (h x (List.mem_cons_self ..)), ih fun g hg => h g (List.mem_cons_of_mem _ hg)]
theorem getL_some {l : List FileB} {p d : ByteArray} (h : getL l p = some d) : (p, d) ∈ l := by
  induction l with
  | nil => cases h
  | cons x l ih =>
    rw [getL_cons] at h
    by_cases hx : x.1 = p
    · rw [if_pos hx] at h
      cases h
      rw [← hx]
      exact List.mem_cons_self ..
    · rw [if_neg hx] at h
      exact List.mem_cons_of_mem _ (ih h)
/-- The program's way: both lists at once. -/
def diffT : List FileB → List FileB → List Chg
  | [], b => b.map fun y => (y.1, 1)
  | x :: a, [] => (x :: a).map fun y => (y.1, 2)
  | x :: a, y :: b =>
    if ltB x.1 y.1 then (x.1, 2) :: diffT a (y :: b)
    else if ltB y.1 x.1 then (y.1, 1) :: diffT (x :: a) b
    else (if x.2.toList != y.2.toList then [(x.1, 3)] else []) ++ diffT a b
termination_by a b => a.length + b.length
theorem diffT_gone {x : FileB} {a b : List FileB} (h : b = [] ∨ ∃ y b', b = y :: b' ∧ ltB x.1 y.1 = true) : diffT (x :: a) b = (x.1, 2) :: diffT a b := by
  rcases h with rfl | ⟨y, b', rfl, h⟩
  · cases a with
    | nil => simp [diffT]
    | cons z a => simp [diffT]
  · rw [diffT, if_pos h]
theorem diffT_added {y : FileB} {a b : List FileB} (h : a = [] ∨ ∃ x a', a = x :: a' ∧ ltB x.1 y.1 = false ∧ ltB y.1 x.1 = true) : diffT a (y :: b) = (y.1, 1) :: diffT a b := by
  rcases h with rfl | ⟨x, a', rfl, h, h2⟩
  · simp [diffT]
  · rw [diffT, if_neg (by rw [h]; simp), if_pos h2]
theorem diffT_both {x y : FileB} {a b : List FileB} (h1 : ltB x.1 y.1 = false) (h2 : ltB y.1 x.1 = false) : diffT (x :: a) (y :: b) = (if x.2.toList != y.2.toList then [(x.1, 3)] else []) ++ diffT a b := by
  rw [diffT, if_neg (by rw [h1]; simp), if_neg (by rw [h2]; simp)]
/-- The document's way: each path. -/
def kindR (a b : List FileB) (p : ByteArray) : Nat :=
  if (getL b p).isSome = false then 2 else if (getL a p).isSome = false then 1 else if (optB (getL a p)).toList != (optB (getL b p)).toList then 3 else 0
def told (a b : List FileB) (p : ByteArray) : Option Chg := if 0 < kindR a b p then some (p, kindR a b p) else none
def allL (a b : List FileB) : List FileB := b.foldl withL a
def diffR (a b : List FileB) : List Chg := (allL a b).filterMap fun f => told a b f.1
theorem allL_mem (b : List FileB) : ∀ (a : List FileB), Rising a → (Rising (allL a b) ∧ ∀ p, (∃ x ∈ allL a b, x.1 = p) ↔ ((∃ x ∈ a, x.1 = p) ∨ ∃ x ∈ b, x.1 = p)) := by
  induction b with
  | nil => intro a ha; exact ⟨ha, fun p => by simp [allL]⟩
  | cons y b ih =>
    intro a ha
    obtain ⟨h1, h2⟩ := ih (withL a y) (withL_rising ha y)
    refine ⟨h1, fun p => ?_⟩
    show (∃ x ∈ allL (withL a y) b, x.1 = p) ↔ _
    rw [h2]
    constructor
    · rintro (⟨x, hx, rfl⟩ | ⟨x, hx, rfl⟩)
      · rcases (withL_mem a y x).1 hx with rfl | ⟨h, _⟩
        · exact .inr ⟨x, List.mem_cons_self .., rfl⟩
        · exact .inl ⟨x, h, rfl⟩
      · exact .inr ⟨x, List.mem_cons_of_mem _ hx, rfl⟩
    · rintro (⟨x, hx, rfl⟩ | ⟨x, hx, rfl⟩)
      · by_cases h : x.1 = y.1
        · exact .inl ⟨y, (withL_mem a y y).2 (.inl rfl), h.symm⟩
        · exact .inl ⟨x, (withL_mem a y x).2 (.inr ⟨hx, h⟩), rfl⟩
      · rcases List.mem_cons.1 hx with rfl | hx
        · exact .inl ⟨x, (withL_mem a x x).2 (.inl rfl), rfl⟩
        · exact .inr ⟨x, hx, rfl⟩
/-- A path is in one of the two. -/
def inOne (a b : List FileB) (p : ByteArray) : Prop := (∃ x ∈ a, x.1 = p) ∨ ∃ x ∈ b, x.1 = p
theorem ltB_head {x : FileB} {l : List FileB} (h : Rising (x :: l)) : ∀ g ∈ l, ltB x.1 g.1 = true := (List.pairwise_cons.1 h).1
theorem ltB_ne' {a b : ByteArray} (h : ltB a b = true) : b ≠ a := (ltB_ne h).symm
theorem diffT_mem : ∀ (n : Nat) (a b : List FileB), a.length + b.length = n → Rising a → Rising b → ∀ c : Chg, c ∈ diffT a b ↔ (inOne a b c.1 ∧ told a b c.1 = some c) := by
  intro n
  induction n using Nat.strongRecOn with
  | _ n ih =>
    intro a b hn ha hb c
    have gone : ∀ x a', a = x :: a' → (b = [] ∨ ∃ y b', b = y :: b' ∧ ltB x.1 y.1 = true) → (c ∈ diffT a b ↔ (inOne a b c.1 ∧ told a b c.1 = some c)) := by
      rintro x a' rfl hxb
      have hlt : ∀ g ∈ b, ltB x.1 g.1 = true := by
        rcases hxb with rfl | ⟨y, b', rfl, h⟩
        · intro g hg; cases hg
        · intro g hg
          rcases List.mem_cons.1 hg with rfl | hg
          · exact h
          · exact ltB_trans h (ltB_head hb g hg)
      have hgb : getL b x.1 = none := getL_none fun g hg => ltB_ne' (hlt g hg)
      have ha' : Rising a' := (List.pairwise_cons.1 ha).2
      have IH := ih (a'.length + b.length) (by rw [← hn]; simp) a' b rfl ha' hb c
      rw [diffT_gone hxb, List.mem_cons, IH]
      have hk : ∀ p, p ≠ x.1 → told (x :: a') b p = told a' b p := fun p hp => by
        have hgl : getL (x :: a') p = getL a' p := by rw [getL_cons, if_neg (fun h => hp h.symm)]
        unfold told kindR
        rw [hgl]
      have hk0 : told (x :: a') b x.1 = some (x.1, 2) := by
        unfold told kindR
        rw [hgb]
        rfl
      constructor
      · rintro (rfl | ⟨h1, h2⟩)
        · exact ⟨.inl ⟨x, List.mem_cons_self .., rfl⟩, hk0⟩
        · have hne : c.1 ≠ x.1 := by
            rcases h1 with ⟨g, hg, he⟩ | ⟨g, hg, he⟩
            · rw [← he]; exact ltB_ne' (ltB_head ha g hg)
            · rw [← he]; exact ltB_ne' (hlt g hg)
          refine ⟨?_, by rw [hk _ hne]; exact h2⟩
          rcases h1 with ⟨g, hg, he⟩ | h
          · exact .inl ⟨g, List.mem_cons_of_mem _ hg, he⟩
          · exact .inr h
      · rintro ⟨h1, h2⟩
        by_cases hc : c.1 = x.1
        · rw [hc, hk0] at h2
          cases h2
          exact .inl rfl
        · rw [hk _ hc] at h2
          refine .inr ⟨?_, h2⟩
          rcases h1 with ⟨g, hg, he⟩ | h
          · rcases List.mem_cons.1 hg with rfl | hg
            · exact absurd he.symm hc
            · exact .inl ⟨g, hg, he⟩
          · exact .inr h
    have added : ∀ y b', b = y :: b' → (a = [] ∨ ∃ x a', a = x :: a' ∧ ltB x.1 y.1 = false ∧ ltB y.1 x.1 = true) → (c ∈ diffT a b ↔ (inOne a b c.1 ∧ told a b c.1 = some c)) := by
      rintro y b' rfl hxb
      have hlt : ∀ g ∈ a, ltB y.1 g.1 = true := by
        rcases hxb with rfl | ⟨x, a', rfl, _, h⟩
        · intro g hg; cases hg
        · intro g hg
          rcases List.mem_cons.1 hg with rfl | hg
          · exact h
          · exact ltB_trans h (ltB_head ha g hg)
      have hga : getL a y.1 = none := getL_none fun g hg => ltB_ne' (hlt g hg)
      have hb' : Rising b' := (List.pairwise_cons.1 hb).2
      have IH := ih (a.length + b'.length) (by rw [← hn]; simp) a b' rfl ha hb' c
      rw [diffT_added hxb, List.mem_cons, IH]
      have hk : ∀ p, p ≠ y.1 → told a (y :: b') p = told a b' p := fun p hp => by
        have hgl : getL (y :: b') p = getL b' p := by rw [getL_cons, if_neg (fun h => hp h.symm)]
        unfold told kindR
        rw [hgl]
      have hk0 : told a (y :: b') y.1 = some (y.1, 1) := by
        unfold told kindR
        rw [hga, getL_cons, if_pos rfl]
        rfl
      constructor
      · rintro (rfl | ⟨h1, h2⟩)
        · exact ⟨.inr ⟨y, List.mem_cons_self .., rfl⟩, hk0⟩
        · have hne : c.1 ≠ y.1 := by
            rcases h1 with ⟨g, hg, he⟩ | ⟨g, hg, he⟩
            · rw [← he]; exact ltB_ne' (hlt g hg)
            · rw [← he]; exact ltB_ne' (ltB_head hb g hg)
          refine ⟨?_, by rw [hk _ hne]; exact h2⟩
          rcases h1 with h | ⟨g, hg, he⟩
          · exact .inl h
          · exact .inr ⟨g, List.mem_cons_of_mem _ hg, he⟩
      · rintro ⟨h1, h2⟩
        by_cases hc : c.1 = y.1
        · rw [hc, hk0] at h2
          cases h2
          exact .inl rfl
        · rw [hk _ hc] at h2
          refine .inr ⟨?_, h2⟩
          rcases h1 with h | ⟨g, hg, he⟩
          · exact .inl h
          · rcases List.mem_cons.1 hg with rfl | hg
            · exact absurd he.symm hc
            · exact .inr ⟨g, hg, he⟩
    cases a with
    | nil =>
      cases b with
      | nil => 
        constructor
        · intro h
          rw [diffT] at h
          cases h
        · rintro ⟨⟨g, hg, _⟩ | ⟨g, hg, _⟩, _⟩ <;> cases hg
      | cons y b => exact added y b rfl (.inl rfl)
    | cons x a =>
      cases b with
      | nil => exact gone x a rfl (.inl rfl)
      | cons y b =>
        cases h1 : ltB x.1 y.1 with
        | true => exact gone x a rfl (.inr ⟨y, b, rfl, h1⟩)
        | false =>
          cases h2 : ltB y.1 x.1 with
          | true => exact added y b rfl (.inr ⟨x, a, rfl, h1, h2⟩)
          | false =>
            have he : x.1 = y.1 := ltB_total h1 h2
            have ha' : Rising a := (List.pairwise_cons.1 ha).2
            have hb' : Rising b := (List.pairwise_cons.1 hb).2
            have IH := ih (a.length + b.length) (by rw [← hn]; simp; omega) a b rfl ha' hb' c
            have hk : ∀ p, p ≠ x.1 → told (x :: a) (y :: b) p = told a b p := fun p hp => by
              have hgl : getL (x :: a) p = getL a p := by rw [getL_cons, if_neg (fun h => hp h.symm)]
              have hgl2 : getL (y :: b) p = getL b p := by rw [getL_cons, if_neg (fun h => hp (by rw [he]; exact h.symm))]
              unfold told kindR
              rw [hgl, hgl2]
            have hk0 : told (x :: a) (y :: b) x.1 = if x.2.toList != y.2.toList then some (x.1, 3) else none := by
              have hg1 : getL (x :: a) x.1 = some x.2 := by rw [getL_cons, if_pos rfl]
              have hg2 : getL (y :: b) x.1 = some y.2 := by rw [getL_cons, if_pos he.symm]
              unfold told kindR
              rw [hg1, hg2]
              show (if 0 < (if (x.2.toList != y.2.toList) = true then 3 else 0) then some (x.1, (if (x.2.toList != y.2.toList) = true then 3 else 0)) else none) = _
              by_cases hd : (x.2.toList != y.2.toList) = true
              · simp only [if_pos hd]; rfl
              · simp only [if_neg hd]; rfl
            rw [diffT_both h1 h2, List.mem_append, IH]
            constructor
            · rintro (h | ⟨h3, h4⟩)
              · cases hd : x.2.toList != y.2.toList with
                | false => rw [hd] at h; cases h
                | true =>
                  rw [hd] at h
                  have : c = (x.1, 3) := List.mem_singleton.1 h
                  subst this
                  exact ⟨.inl ⟨x, List.mem_cons_self .., rfl⟩, by rw [hk0, hd]; rfl⟩
              · have hne : c.1 ≠ x.1 := by
                  rcases h3 with ⟨g, hg, he2⟩ | ⟨g, hg, he2⟩
                  · rw [← he2]; exact ltB_ne' (ltB_head ha g hg)
                  · rw [← he2, he]; exact ltB_ne' (ltB_head hb g hg)
                refine ⟨?_, by rw [hk _ hne]; exact h4⟩
                rcases h3 with ⟨g, hg, he2⟩ | ⟨g, hg, he2⟩
                · exact .inl ⟨g, List.mem_cons_of_mem _ hg, he2⟩
                · exact .inr ⟨g, List.mem_cons_of_mem _ hg, he2⟩
            · rintro ⟨h3, h4⟩
              by_cases hc : c.1 = x.1
              · rw [hc, hk0] at h4
                cases hd : x.2.toList != y.2.toList with
                | false => rw [hd] at h4; cases h4
                | true =>
                  rw [hd] at h4
                  cases h4
                  exact .inl (List.mem_singleton.2 rfl)
              · rw [hk _ hc] at h4
                refine .inr ⟨?_, h4⟩
                rcases h3 with ⟨g, hg, he2⟩ | ⟨g, hg, he2⟩
                · rcases List.mem_cons.1 hg with rfl | hg
                  · exact absurd he2.symm hc
                  · exact .inl ⟨g, hg, he2⟩
                · rcases List.mem_cons.1 hg with rfl | hg
                  · exact absurd (he2.symm.trans he.symm) hc
                  · exact .inr ⟨g, hg, he2⟩
end Go.Proofs.YtjpaajpjajoijaaDoor
