/- Files with one put in: plain law. -/
import Derived.Test.YtjpaajpjajoijaaDoorOrder
namespace Go.Proofs.YtjpaajpjajoijaaDoor
set_option linter.unusedVariables false
open Go.RowKit
/-- Is the file's path at the other one's, or ahead of it? -/
def leF (f g : FileB) : Bool := Op.bytesLess f.1.toList g.1.toList || f.1.toList == g.1.toList
/-- One round of the document's loop. -/
def wstep (f : FileB) (s : List FileB × Bool) (g : FileB) : List FileB × Bool :=
  ((if (!s.2 && leF f g) = true then s.1 ++ [f] else s.1) ++ (if (g.1.toList == f.1.toList) = true then [] else [g]), s.2 || leF f g)
def withTo (l : List FileB) (f : FileB) : List FileB × Bool := l.foldl (wstep f) ([], false)
/-- Files with one put in. -/
def withL (l : List FileB) (f : FileB) : List FileB := if (withTo l f).2 = true then (withTo l f).1 else (withTo l f).1 ++ [f]
theorem withTo_snoc (l : List FileB) (f : FileB) (k : Nat) (h : k < l.length) : withTo (l.take (k + 1)) f = wstep f (withTo (l.take k) f) (l[k]'h) := by
  unfold withTo
  rw [List.take_succ_eq_append_getElem h, List.foldl_append]
  rfl
/-- As a recursion. -/
def withR (f : FileB) : Bool → List FileB → List FileB
  | true, [] => []
  | false, [] => [f]
  | true, g :: l => (if (g.1.toList == f.1.toList) = true then [] else [g]) ++ withR f true l
  | false, g :: l => if leF f g = true then f :: ((if (g.1.toList == f.1.toList) = true then [] else [g]) ++ withR f true l) else g :: withR f false l
theorem withR_cons_true (f g : FileB) (l : List FileB) : withR f true (g :: l) = (if (g.1.toList == f.1.toList) = true then [] else [g]) ++ withR f true l := rfl
theorem withR_cons_false (f g : FileB) (l : List FileB) : withR f false (g :: l) = if leF f g = true then f :: withR f true (g :: l) else g :: withR f false l := rfl
theorem leF_not {f g : FileB} (h : leF f g = false) : ltB g.1 f.1 = true := by
  unfold leF at h
  rw [Bool.or_eq_false_iff] at h
  cases h2 : ltB g.1 f.1 with
  | true => rfl
  | false =>
    have := ltB_total (a := f.1) (b := g.1) h.1 h2
    rw [eqB_iff.2 this] at h
    cases h.2
theorem leF_yes {f g : FileB} (h : leF f g = true) : f.1 = g.1 ∨ ltB f.1 g.1 = true := by
  unfold leF at h
  rw [Bool.or_eq_true] at h
  rcases h with h | h
  · exact .inr h
  · exact .inl (eqB_iff.1 h)
theorem with_fold (f : FileB) : ∀ (l : List FileB) (out : List FileB) (d : Bool),
    (if (l.foldl (wstep f) (out, d)).2 = true then (l.foldl (wstep f) (out, d)).1 else (l.foldl (wstep f) (out, d)).1 ++ [f]) = out ++ withR f d l
  | [], out, true => by simp [withR]
  | [], out, false => by simp [withR]
  | g :: l, out, true => by
    have ih := with_fold f l (out ++ (if (g.1.toList == f.1.toList) = true then [] else [g])) true
    rw [List.foldl_cons, show wstep f (out, true) g = (out ++ (if (g.1.toList == f.1.toList) = true then [] else [g]), true) from rfl, ih]
    simp [withR]
  | g :: l, out, false => by
    cases hle : leF f g with
    | true =>
      have ih := with_fold f l (out ++ [f] ++ (if (g.1.toList == f.1.toList) = true then [] else [g])) true
      rw [List.foldl_cons, show wstep f (out, false) g = (out ++ [f] ++ (if (g.1.toList == f.1.toList) = true then [] else [g]), true) from by unfold wstep; rw [hle]; rfl, ih]
      rw [withR_cons_false, withR_cons_true, if_pos hle]
      simp only [List.append_assoc, List.cons_append, List.nil_append]
    | false =>
      have hne : (g.1.toList == f.1.toList) = false := eqB_false (ltB_ne (leF_not hle))
      have ih := with_fold f l (out ++ [g]) false
      rw [List.foldl_cons, show wstep f (out, false) g = (out ++ [g], false) from by unfold wstep; rw [hle, hne]; rfl, ih]
      rw [withR_cons_false, if_neg (by rw [hle]; simp)]
      simp only [List.append_assoc, List.singleton_append]
theorem withL_eq (l : List FileB) (f : FileB) : withL l f = withR f false l := by
  have := with_fold f l [] false
  rw [List.nil_append] at this
  exact this
theorem withR_true (f : FileB) : ∀ (l : List FileB) (x : FileB), x ∈ withR f true l ↔ x ∈ l ∧ x.1 ≠ f.1
  | [], x => by simp [withR]
  | g :: l, x => by
    rw [withR_cons_true, List.mem_append, withR_true f l x]
    by_cases he : g.1 = f.1
    · rw [if_pos (eqB_iff.2 he)]
      constructor
      · rintro (h | h)
        · cases h
        · exact ⟨by simp [h.1], h.2⟩
      · rintro ⟨h1, h2⟩
        rcases List.mem_cons.1 h1 with rfl | h1
        · exact absurd he h2
        · exact .inr ⟨h1, h2⟩
    · rw [if_neg (by rw [eqB_false he]; simp)]
      constructor
      · rintro (h | h)
        · simp at h; subst h; exact ⟨by simp, he⟩
        · exact ⟨by simp [h.1], h.2⟩
      · rintro ⟨h1, h2⟩
        rcases List.mem_cons.1 h1 with rfl | h1
        · exact .inl (by simp)
        · exact .inr ⟨h1, h2⟩
theorem withR_mem (f : FileB) : ∀ (l : List FileB) (x : FileB), x ∈ withR f false l ↔ x = f ∨ (x ∈ l ∧ x.1 ≠ f.1)
  | [], x => by simp [withR]
  | g :: l, x => by
    rw [withR_cons_false]
    cases hle : leF f g with
    | true =>
      rw [if_pos rfl, List.mem_cons, withR_true f (g :: l) x]
    | false =>
      have hne := ltB_ne (leF_not hle)
      rw [if_neg (by simp), List.mem_cons, withR_mem f l x]
      constructor
      · rintro (rfl | rfl | ⟨h1, h2⟩)
        · exact .inr ⟨by simp, hne⟩
        · exact .inl rfl
        · exact .inr ⟨by simp [h1], h2⟩
      · rintro (rfl | ⟨h1, h2⟩)
        · exact .inr (.inl rfl)
        · rcases List.mem_cons.1 h1 with rfl | h1
          · exact .inl rfl
          · exact .inr (.inr ⟨h1, h2⟩)
theorem withL_mem (l : List FileB) (f x : FileB) : x ∈ withL l f ↔ x = f ∨ (x ∈ l ∧ x.1 ≠ f.1) := by rw [withL_eq]; exact withR_mem f l x
theorem withR_true_rising (f : FileB) : ∀ (l : List FileB), Rising l → Rising (withR f true l)
  | [], _ => by unfold withR; exact List.Pairwise.nil
  | g :: l, h => by
    have h' := List.pairwise_cons.1 h
    have ih := withR_true_rising f l h'.2
    rw [withR_cons_true]
    by_cases he : (g.1.toList == f.1.toList) = true
    · rw [if_pos he]; exact ih
    · rw [if_neg he]
      exact List.pairwise_cons.2 ⟨fun x hx => h'.1 x ((withR_true f l x).1 hx).1, ih⟩
theorem withR_rising (f : FileB) : ∀ (l : List FileB), Rising l → Rising (withR f false l)
  | [], _ => by unfold withR; exact List.pairwise_cons.2 ⟨by simp, List.Pairwise.nil⟩
  | g :: l, h => by
    have h' := List.pairwise_cons.1 h
    rw [withR_cons_false]
    cases hle : leF f g with
    | true =>
      rw [if_pos rfl]
      have h1 := withR_true_rising f (g :: l) h
      have h2 := withR_true f (g :: l)
      refine List.pairwise_cons.2 ⟨fun x hx => ?_, h1⟩
      obtain ⟨hx1, hx2⟩ := (h2 x).1 hx
      rcases leF_yes hle with he | hlt
      · rcases List.mem_cons.1 hx1 with rfl | hx1
        · exact absurd he.symm hx2
        · rw [he]; exact h'.1 x hx1
      · rcases List.mem_cons.1 hx1 with rfl | hx1
        · exact hlt
        · exact ltB_trans hlt (h'.1 x hx1)
    | false =>
      rw [if_neg (by simp)]
      refine List.pairwise_cons.2 ⟨fun x hx => ?_, withR_rising f l h'.2⟩
      rcases (withR_mem f l x).1 hx with rfl | ⟨hx1, _⟩
      · exact leF_not hle
      · exact h'.1 x hx1
theorem withL_rising {l : List FileB} (h : Rising l) (f : FileB) : Rising (withL l f) := by rw [withL_eq]; exact withR_rising f l h
theorem withTo_len (f : FileB) : ∀ (l : List FileB) (out : List FileB) (d : Bool), (l.foldl (wstep f) (out, d)).1.length + (if (l.foldl (wstep f) (out, d)).2 = true then 0 else 1) ≤ out.length + (if d = true then 0 else 1) + l.length
  | [], out, d => Nat.le_refl _
  | g :: l, out, d => by
    rw [List.foldl_cons]
    have ih := withTo_len f l (wstep f (out, d) g).1 (wstep f (out, d) g).2
    have hs : (wstep f (out, d) g).1.length + (if (wstep f (out, d) g).2 = true then 0 else 1) ≤ out.length + (if d = true then 0 else 1) + 1 := by
      unfold wstep
      cases d <;> cases leF f g <;> cases (g.1.toList == f.1.toList) <;> simp
    rw [show ((wstep f (out, d) g).1, (wstep f (out, d) g).2) = wstep f (out, d) g from rfl] at ih
    rw [List.length_cons]
    omega
theorem withL_len (l : List FileB) (f : FileB) : (withL l f).length ≤ l.length + 1 := by
  have := withTo_len f l [] false
  unfold withL withTo
  split
  · rename_i h; rw [if_pos h] at this; simp at this; omega
  · rename_i h; rw [if_neg h] at this; simp at this ⊢; omega
theorem withTo_short (l : List FileB) (f : FileB) : (withTo l f).1.length ≤ l.length + 1 := by
  have := withTo_len f l [] false
  unfold withTo
  simp at this
  split at this <;> omega
end Go.Proofs.YtjpaajpjajoijaaDoor
