/- To a tree is done what its differences from another one tell: it is that other one. Plain lists. -/
import Derived.Test.YtjpaajpjajoijaaDoorDiffE
import Derived.Test.YtjpaajpjajoijaaDoorRPut
import Derived.Test.YtjpaajpjajoijaaDoorRPaths
namespace Go.Proofs.YtjpaajpjajoijaaDoor
set_option linter.unusedVariables false
theorem get_mem' {l : List FileB} (hR : Rising l) {g : FileB} (hg : g ∈ l) : getL l g.1 = some g.2 := by
  cases h : getL l g.1 with
  | some d => rw [rising_unique hR hg (getL_some h) rfl]
  | none =>
    unfold getL at h
    have h1 := List.find?_eq_none.1 (Option.map_eq_none_iff.1 h) g hg
    unfold isP at h1
    simp at h1
/-- One change done. -/
def stepT (b t : List FileB) (c : Chg) : List FileB := if c.2 = 2 then dropL t c.1 else putL t (c.1, optB (getL b c.1))
/-- The tree behind the first k changes. -/
structure Half (a b : List FileB) (D : List Chg) (k : Nat) (t : List FileB) : Prop where
  rising : Rising t
  good : ∀ x ∈ t, bad7 x.1 = false
  mem : ∀ x, x ∈ t ↔ ((x ∈ a ∧ ¬ ∃ c ∈ D.take k, c.1 = x.1) ∨ (x ∈ b ∧ ∃ c ∈ D.take k, c.1 = x.1))
  len : t.length ≤ a.length + k
theorem getL_isSome {l : List FileB} {p : ByteArray} (h : (getL l p).isSome = true) : ∃ d, getL l p = some d ∧ (p, d) ∈ l := by
  obtain ⟨d, hd⟩ := Option.isSome_iff_exists.1 h
  exact ⟨d, hd, getL_some hd⟩
theorem half_zero {a b : List FileB} {D : List Chg} (ha : checkL a = 0) : Half a b D 0 a := by
  obtain ⟨h1, h2⟩ := (checkL_iff a).1 ha
  exact ⟨h2, h1, fun x => by simp, Nat.le_refl _⟩
theorem take_mem_succ {D : List Chg} {k : Nat} (hk : k < D.length) (p : ByteArray) : (∃ c ∈ D.take (k + 1), c.1 = p) ↔ ((∃ c ∈ D.take k, c.1 = p) ∨ (D[k]'hk).1 = p) := by
  rw [List.take_succ_eq_append_getElem hk]
  constructor
  · rintro ⟨c, hc, he⟩
    rcases List.mem_append.1 hc with hc | hc
    · exact .inl ⟨c, hc, he⟩
    · rw [List.mem_singleton.1 hc] at he
      exact .inr he
  · rintro (⟨c, hc, he⟩ | he)
    · exact ⟨c, List.mem_append_left _ hc, he⟩
    · exact ⟨_, List.mem_append_right _ (List.mem_singleton.2 rfl), he⟩
/-- What is known of a change: its path is good; it is gone, or the other tree has it. -/
theorem chg_facts {a b : List FileB} (ha : checkL a = 0) (hb : checkL b = 0) {c : Chg} (hc : c ∈ diffT a b) :
    bad7 c.1 = false ∧ (c.2 = 2 → ∀ x ∈ b, x.1 ≠ c.1) ∧ (c.2 ≠ 2 → ∃ d, getL b c.1 = some d ∧ (c.1, d) ∈ b) ∧ inOne a b c.1 := by
  obtain ⟨a1, a2⟩ := (checkL_iff a).1 ha
  obtain ⟨b1, b2⟩ := (checkL_iff b).1 hb
  obtain ⟨h1, h2⟩ := (diffT_mem _ a b rfl a2 b2 c).1 hc
  obtain ⟨_, h4, h5⟩ := told_path h2
  refine ⟨?_, ?_, ?_, h1⟩
  · rcases h1 with ⟨x, hx, he⟩ | ⟨x, hx, he⟩
    · rw [← he]; exact a1 x hx
    · rw [← he]; exact b1 x hx
  · intro hc2 x hx he
    rw [h4] at hc2
    have hg := get_mem' b2 hx
    rw [he] at hg
    unfold kindR at hc2
    rw [hg] at hc2
    simp at hc2
    split at hc2
    · cases hc2
    · split at hc2 <;> cases hc2
  · intro hc2
    cases hg : getL b c.1 with
    | some d => exact ⟨d, rfl, getL_some hg⟩
    | none =>
      exfalso
      apply hc2
      rw [h4]
      unfold kindR
      rw [hg]
      rfl
theorem half_step {a b : List FileB} (ha : checkL a = 0) (hb : checkL b = 0) {k : Nat} {t : List FileB} (hk : k < (diffT a b).length) (h : Half a b (diffT a b) k t) :
    Half a b (diffT a b) (k + 1) (stepT b t ((diffT a b)[k]'hk)) := by
  obtain ⟨a1, a2⟩ := (checkL_iff a).1 ha
  obtain ⟨b1, b2⟩ := (checkL_iff b).1 hb
  have hmem := List.getElem_mem hk
  obtain ⟨f1, f2, f3, f4⟩ := chg_facts ha hb hmem
  have hts := fun p => take_mem_succ hk p
  obtain ⟨c, hc⟩ : ∃ c, c = (diffT a b)[k]'hk := ⟨_, rfl⟩
  rw [← hc] at f1 f2 f3 f4 ⊢
  simp only [← hc] at hts
  have hct : checkL t = 0 := (checkL_iff t).2 ⟨h.good, h.rising⟩
  unfold stepT
  by_cases h2 : c.2 = 2
  · rw [if_pos h2]
    have hd : dropL t c.1 = t.filter (fun f => !(f.1.toList == c.1.toList)) := by unfold dropL; rw [if_pos hct]
    have hdm : ∀ x, x ∈ dropL t c.1 ↔ x ∈ t ∧ x.1 ≠ c.1 := fun x => by
      rw [hd, List.mem_filter]
      have : ((!(x.1.toList == c.1.toList)) = true) ↔ x.1 ≠ c.1 := by
        rw [Bool.not_eq_true', ← Bool.not_eq_true, eqB_iff]
      rw [this]
    refine ⟨?_, fun x hx => h.good x ((hdm x).1 hx).1, fun x => ?_, ?_⟩
    · rw [hd]; exact h.rising.filter _
    · rw [hdm, h.mem, hts]
      constructor
      · rintro ⟨⟨h3, h4⟩ | ⟨h3, h4⟩, h5⟩
        · refine .inl ⟨h3, ?_⟩
          rintro (h6 | h6)
          · exact h4 h6
          · exact h5 h6.symm
        · exact .inr ⟨h3, .inl h4⟩
      · rintro (⟨h3, h4⟩ | ⟨h3, h4⟩)
        · exact ⟨.inl ⟨h3, fun h6 => h4 (.inl h6)⟩, fun h6 => h4 (.inr h6.symm)⟩
        · rcases h4 with h4 | h4
          · exact ⟨.inr ⟨h3, h4⟩, fun h6 => f2 h2 x h3 h6⟩
          · exact absurd h4.symm (f2 h2 x h3)
    · rw [hd]
      have := List.length_filter_le (fun f : FileB => !(f.1.toList == c.1.toList)) t
      have := h.len
      omega
  · rw [if_neg h2]
    obtain ⟨d, hd, hdm⟩ := f3 h2
    have hR := withL_rising h.rising (c.1, d)
    have hG : ∀ x ∈ withL t (c.1, d), bad7 x.1 = false := fun x hx => by
      rcases (withL_mem t (c.1, d) x).1 hx with rfl | ⟨h3, _⟩
      · exact f1
      · exact h.good x h3
    have hp : putL t (c.1, optB (getL b c.1)) = withL t (c.1, d) := by
      rw [hd]
      show putL t (c.1, d) = _
      unfold putL
      rw [if_pos hct, if_pos ((checkL_iff _).2 ⟨hG, hR⟩)]
    rw [hp]
    refine ⟨hR, hG, fun x => ?_, ?_⟩
    · rw [withL_mem, h.mem, hts]
      constructor
      · rintro (rfl | ⟨⟨h3, h4⟩ | ⟨h3, h4⟩, h5⟩)
        · exact .inr ⟨hdm, .inr rfl⟩
        · refine .inl ⟨h3, ?_⟩
          rintro (h6 | h6)
          · exact h4 h6
          · exact h5 h6.symm
        · exact .inr ⟨h3, .inl h4⟩
      · rintro (⟨h3, h4⟩ | ⟨h3, h4⟩)
        · exact .inr ⟨.inl ⟨h3, fun h6 => h4 (.inl h6)⟩, fun h6 => h4 (.inr h6.symm)⟩
        · by_cases h6 : x.1 = c.1
          · exact .inl (rising_unique b2 h3 hdm h6)
          · rcases h4 with h4 | h4
            · exact .inr ⟨.inr ⟨h3, h4⟩, h6⟩
            · exact absurd h4.symm h6
    · have := withL_len t (c.1, d)
      have := h.len
      omega
theorem half_end {a b : List FileB} (ha : checkL a = 0) (hb : checkL b = 0) {t : List FileB} (h : Half a b (diffT a b) (diffT a b).length t) : t = b := by
  obtain ⟨a1, a2⟩ := (checkL_iff a).1 ha
  obtain ⟨b1, b2⟩ := (checkL_iff b).1 hb
  have hnone : ∀ p, inOne a b p → (¬ ∃ c ∈ diffT a b, c.1 = p) → ∀ d, ((p, d) ∈ a ↔ (p, d) ∈ b) := fun p hp hno d => by
    have ht : told a b p = none := by
      cases hq : told a b p with
      | none => rfl
      | some c =>
        obtain ⟨h1, _, _⟩ := told_path hq
        exact absurd ⟨c, (diffT_mem _ a b rfl a2 b2 c).2 ⟨by rw [h1]; exact hp, by rw [h1]; exact hq⟩, h1⟩ hno
    have hk : kindR a b p = 0 := by
      unfold told at ht
      split at ht
      · cases ht
      · omega
    unfold kindR at hk
    split at hk
    · cases hk
    · split at hk
      · cases hk
      · split at hk
        · cases hk
        · rename_i h1 h2 h3
          obtain ⟨d1, e1, m1⟩ := getL_isSome (l := b) (p := p) (by simpa only [Bool.not_eq_false] using h1)
          obtain ⟨d2, e2, m2⟩ := getL_isSome (l := a) (p := p) (by simpa only [Bool.not_eq_false] using h2)
          rw [e1, e2] at h3
          have he : d2 = d1 := toList_inj (by simpa [optB] using h3)
          subst he
          constructor
          · intro hx
            rw [rising_unique a2 hx m2 rfl]
            exact m1
          · intro hx
            rw [rising_unique b2 hx m1 rfl]
            exact m2
  refine rising_files h.rising b2 fun x => ?_
  rw [h.mem, List.take_length]
  constructor
  · rintro (⟨h1, h2⟩ | ⟨h1, _⟩)
    · exact (hnone x.1 (.inl ⟨x, h1, rfl⟩) h2 x.2).1 h1
    · exact h1
  · intro hx
    by_cases h2 : ∃ c ∈ diffT a b, c.1 = x.1
    · exact .inr ⟨hx, h2⟩
    · exact .inl ⟨(hnone x.1 (.inr ⟨x, hx, rfl⟩) h2 x.2).2 hx, h2⟩
end Go.Proofs.YtjpaajpjajoijaaDoor
