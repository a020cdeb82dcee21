/- Paths on lists of bytes: cut at strokes, parts, directories. No program here. -/
import Derived.Lib.PathFns
namespace Go.Proofs.YtjpaajpjajoijaaDoor
set_option linter.unusedVariables false
open Go.Lib
/-- What stands between strokes. -/
def splitS : List UInt8 → List (List UInt8)
  | [] => [[]]
  | c :: l => if c = 47 then [] :: splitS l else match splitS l with
    | [] => [[c]]
    | x :: xs => (c :: x) :: xs
/-- Joined with strokes. -/
def joinS : List (List UInt8) → List UInt8
  | [] => []
  | [x] => x
  | x :: y :: xs => x ++ 47 :: joinS (y :: xs)
/-- May a part have it? -/
def okSign (c : UInt8) : Bool := (97 ≤ c && c ≤ 122) || (65 ≤ c && c ≤ 90) || (48 ≤ c && c ≤ 57) || c == 95 || c == 46 || c == 45 || c == 43
/-- Is a text a part? -/
def okPart (l : List UInt8) : Bool := !(l == [] || l == [46] || l == [46, 46] || decide (64 < l.length)) && l.all okSign
/-- Is a text a path? -/
def okPath (l : List UInt8) : Bool := (splitS l).all okPart && decide ((splitS l).length ≤ 16)
/-- Of a text that is a path: its directory, its last part, its ending. -/
def dirL (l : List UInt8) : List UInt8 := if okPath l then joinS (splitS l).dropLast else []
def baseL (l : List UInt8) : List UInt8 := if okPath l then (splitS l).getLast?.getD [] else []
def extL (l : List UInt8) : List UInt8 := if 0 < Pa.lastIndexByte (baseL l) 46 then (baseL l).drop (Pa.lastIndexByte (baseL l) 46).toNat else []
/-- Is a text a path below a directory? -/
def underL (s dir : List UInt8) : Bool := okPath s && (dir == [] || (dir ++ [47]).isPrefixOf s)
theorem take_ne {α : Type} {p : List α} {m : Nat} (h0 : 0 < m) (h : 0 < p.length) : p.take m ≠ [] := by
  intro h1
  have h2 := congrArg List.length h1
  rw [List.length_take, List.length_nil] at h2
  omega
theorem drop_ne {α : Type} {p : List α} {m : Nat} (h : m < p.length) : p.drop m ≠ [] := by
  intro h1
  have h2 := congrArg List.length h1
  rw [List.length_drop, List.length_nil] at h2
  omega
theorem splitS_ne (l : List UInt8) : splitS l ≠ [] := by
  cases l with
  | nil => simp [splitS]
  | cons c l =>
    unfold splitS
    split
    · simp
    · split <;> simp
theorem splitS_cons_other {c : UInt8} (l : List UInt8) (h : c ≠ 47) : ∃ x xs, splitS l = x :: xs ∧ splitS (c :: l) = (c :: x) :: xs := by
  cases hs : splitS l with
  | nil => exact absurd hs (splitS_ne l)
  | cons x xs => exact ⟨x, xs, rfl, by rw [splitS, if_neg h, hs]⟩
theorem splitS_stroke (l : List UInt8) : splitS (47 :: l) = [] :: splitS l := by rw [splitS, if_pos rfl]
theorem splitS_append (a b : List UInt8) : splitS (a ++ 47 :: b) = splitS a ++ splitS b := by
  induction a with
  | nil => simp [splitS_stroke, splitS]
  | cons c a ih =>
    by_cases hc : c = 47
    · subst hc
      rw [List.cons_append, splitS_stroke, splitS_stroke, ih]
      rfl
    · obtain ⟨x, xs, h1, h2⟩ := splitS_cons_other (a ++ 47 :: b) hc
      obtain ⟨y, ys, h3, h4⟩ := splitS_cons_other a hc
      rw [List.cons_append, h2, h4]
      rw [ih, h3] at h1
      simp only [List.cons_append, List.cons.injEq] at h1
      obtain ⟨rfl, rfl⟩ := h1
      rfl
theorem splitS_plain (a : List UInt8) (h : ∀ c ∈ a, c ≠ 47) : splitS a = [a] := by
  induction a with
  | nil => rfl
  | cons c a ih =>
    obtain ⟨x, xs, h1, h2⟩ := splitS_cons_other a (h c (by simp))
    rw [ih (fun d hd => h d (by simp [hd]))] at h1
    simp only [List.cons.injEq] at h1
    obtain ⟨rfl, rfl⟩ := h1
    exact h2
theorem joinS_cons (x : List UInt8) {p : List (List UInt8)} (h : p ≠ []) : joinS (x :: p) = x ++ 47 :: joinS p := by
  cases p with
  | nil => exact absurd rfl h
  | cons y p => rfl
theorem joinS_split (l : List UInt8) : joinS (splitS l) = l := by
  induction l with
  | nil => rfl
  | cons c l ih =>
    by_cases hc : c = 47
    · subst hc
      rw [splitS_stroke, joinS_cons _ (splitS_ne l), ih]
      rfl
    · obtain ⟨x, xs, h1, h2⟩ := splitS_cons_other l hc
      rw [h2]
      rw [h1] at ih
      cases xs with
      | nil => simp only [joinS] at ih ⊢; rw [ih]
      | cons y ys => simp only [joinS, List.cons_append] at ih ⊢; rw [ih]
theorem splitS_no_stroke (l : List UInt8) : ∀ x ∈ splitS l, ∀ c ∈ x, c ≠ 47 := by
  induction l with
  | nil => simp [splitS]
  | cons c l ih =>
    by_cases hc : c = 47
    · subst hc
      rw [splitS_stroke]
      intro x hx
      rcases List.mem_cons.1 hx with rfl | hx
      · simp
      · exact ih x hx
    · obtain ⟨x, xs, h1, h2⟩ := splitS_cons_other l hc
      rw [h2]
      rw [h1] at ih
      intro y hy
      rcases List.mem_cons.1 hy with rfl | hy
      · intro d hd
        rcases List.mem_cons.1 hd with rfl | hd
        · exact hc
        · exact ih x (by simp) d hd
      · exact ih y (by simp [hy])
theorem splitS_join : ∀ (p : List (List UInt8)), p ≠ [] → (∀ x ∈ p, ∀ c ∈ x, c ≠ 47) → splitS (joinS p) = p
  | [], h, _ => absurd rfl h
  | [x], _, h => splitS_plain x (h x (by simp))
  | x :: y :: p, _, h => by
    rw [joinS_cons x (by simp), splitS_append, splitS_plain x (h x (by simp)), splitS_join (y :: p) (by simp) (fun z hz => h z (by simp [hz]))]
    rfl
theorem joinS_append : ∀ (p q : List (List UInt8)), p ≠ [] → q ≠ [] → joinS (p ++ q) = joinS p ++ 47 :: joinS q
  | [], q, h, _ => absurd rfl h
  | [x], q, _, h => by rw [List.cons_append, List.nil_append, joinS_cons x h]; rfl
  | x :: y :: p, q, _, h => by
    rw [List.cons_append, joinS_cons x (by simp), joinS_append (y :: p) q (by simp) h, joinS_cons x (by simp)]
    simp
theorem okSign_stroke {c : UInt8} (h : okSign c = true) : c ≠ 47 := by
  rintro rfl
  exact absurd h (by decide)
theorem okPart_ne {l : List UInt8} (h : okPart l = true) : l ≠ [] := by
  rintro rfl
  exact absurd h (by decide)
theorem okPart_sign {l : List UInt8} (h : okPart l = true) : ∀ c ∈ l, c ≠ 47 := fun c hc => by
  unfold okPart at h
  rw [Bool.and_eq_true] at h
  exact okSign_stroke (List.all_eq_true.1 h.2 c hc)
theorem okPath_iff (l : List UInt8) : okPath l = true ↔ (∀ x ∈ splitS l, okPart x = true) ∧ (splitS l).length ≤ 16 := by
  unfold okPath
  rw [Bool.and_eq_true, List.all_eq_true, decide_eq_true_iff]
theorem okPath_nil : okPath [] = false := by decide
theorem okPath_ne {l : List UInt8} (h : okPath l = true) : l ≠ [] := by
  rintro rfl
  rw [okPath_nil] at h
  exact absurd h (by simp)
theorem joinS_ne {p : List (List UInt8)} (hp : p ≠ []) (h : ∀ x ∈ p, okPart x = true) : joinS p ≠ [] := by
  match p, hp with
  | [x], _ => exact okPart_ne (h x (by simp))
  | x :: y :: p, _ => simp [joinS]
/-- The parts of a path, some of them from the front on, are a path's. -/
theorem okPath_join {p : List (List UInt8)} (hp : p ≠ []) (h : ∀ x ∈ p, okPart x = true) (hl : p.length ≤ 16) : splitS (joinS p) = p ∧ okPath (joinS p) = true := by
  have hs := splitS_join p hp (fun x hx => okPart_sign (h x hx))
  exact ⟨hs, (okPath_iff _).2 (by rw [hs]; exact ⟨h, hl⟩)⟩
/-- The directory of the first parts is the first parts but one. -/
theorem dirL_join {p : List (List UInt8)} (hp : p ≠ []) (h : ∀ x ∈ p, okPart x = true) (hl : p.length ≤ 16) : dirL (joinS p) = joinS p.dropLast := by
  obtain ⟨h1, h2⟩ := okPath_join hp h hl
  unfold dirL
  rw [if_pos h2, h1]
theorem dirL_take {p : List (List UInt8)} (h : ∀ x ∈ p, okPart x = true) (hl : p.length ≤ 16) {m : Nat} (hm : m < p.length) : dirL (joinS (p.take (m + 1))) = joinS (p.take m) := by
  rw [dirL_join (by cases p with | nil => simp at hm | cons a p => simp) (fun x hx => h x (List.mem_of_mem_take hx)) (by rw [List.length_take]; omega)]
  rw [List.dropLast_eq_take, List.take_take, List.length_take, Nat.min_eq_left (show m + 1 ≤ p.length by omega), Nat.min_eq_left (by omega), Nat.add_sub_cancel]
/-- Below a directory: the directory is made of some first parts, but not of all. -/
theorem underL_iff (s dir : List UInt8) : underL s dir = true ↔ okPath s = true ∧ ∃ m, m < (splitS s).length ∧ dir = joinS ((splitS s).take m) := by
  unfold underL
  rw [Bool.and_eq_true]
  refine and_congr_right fun hs => ?_
  have hne := splitS_ne s
  have hpos : 0 < (splitS s).length := List.length_pos_iff.2 hne
  rw [Bool.or_eq_true, beq_iff_eq, List.isPrefixOf_iff_prefix]
  constructor
  · rintro (rfl | ⟨t, ht⟩)
    · exact ⟨0, hpos, by simp [joinS]⟩
    · have h1 : s = dir ++ 47 :: t := by rw [← ht]; simp
      refine ⟨(splitS dir).length, ?_, ?_⟩
      · rw [h1, splitS_append, List.length_append]
        have := List.length_pos_iff.2 (splitS_ne t)
        omega
      · rw [h1, splitS_append, List.take_left', joinS_split]
        rfl
  · rintro ⟨m, hm, rfl⟩
    by_cases h0 : m = 0
    · subst h0; left; simp [joinS]
    · right
      have h2 : (splitS s).take m ≠ [] := take_ne (by omega) hpos
      have h3 : (splitS s).drop m ≠ [] := drop_ne hm
      refine ⟨joinS ((splitS s).drop m), ?_⟩
      have := joinS_append _ _ h2 h3
      rw [List.take_append_drop, joinS_split] at this
      simp only [List.append_assoc, List.singleton_append]
      exact this.symm
theorem underL_self (s : List UInt8) : underL s s = false := by
  cases h : underL s s with
  | false => rfl
  | true =>
    unfold underL at h
    rw [Bool.and_eq_true, Bool.or_eq_true, beq_iff_eq, List.isPrefixOf_iff_prefix] at h
    rcases h.2 with rfl | h2
    · exact absurd h.1 (by decide)
    · have := h2.length_le
      simp at this
      omega
/-- A directory that a path lies below is a path, or the top. -/
theorem underL_dir {s dir : List UInt8} (h : underL s dir = true) (hd : dir ≠ []) : okPath dir = true := by
  obtain ⟨h1, m, hm, rfl⟩ := (underL_iff s dir).1 h
  obtain ⟨h2, h3⟩ := (okPath_iff s).1 h1
  refine (okPath_join (fun h0 => hd (by rw [h0]; rfl)) (fun x hx => h2 x (List.mem_of_mem_take hx)) (by rw [List.length_take]; omega)).2
/-- As the document goes: the directory, or below it. -/
theorem underL_step (s dir : List UInt8) (hd : dir ≠ []) : underL s dir = (okPath s && (dirL s != [] && (dirL s == dir || underL (dirL s) dir))) := by
  by_cases hs : okPath s = true
  · obtain ⟨h2, h3⟩ := (okPath_iff s).1 hs
    have hpos : 0 < (splitS s).length := List.length_pos_iff.2 (splitS_ne s)
    have hdir : dirL s = joinS ((splitS s).take ((splitS s).length - 1)) := by
      unfold dirL
      rw [if_pos hs, List.dropLast_eq_take]
    by_cases h1 : (splitS s).length = 1
    · rw [hs]
      have e0 : dirL s = [] := by rw [hdir, h1]; rfl
      rw [e0]
      cases hu : underL s dir with
      | false => rfl
      | true =>
        obtain ⟨_, m, hm, rfl⟩ := (underL_iff s dir).1 hu
        rw [h1] at hm
        have : m = 0 := by omega
        subst this
        exact absurd rfl hd
    · have hne : (splitS s).take ((splitS s).length - 1) ≠ [] := take_ne (by omega) hpos
      obtain ⟨j1, j2⟩ := okPath_join hne (fun x hx => h2 x (List.mem_of_mem_take hx)) (by rw [List.length_take]; omega)
      have hn : dirL s ≠ [] := by rw [hdir]; exact okPath_ne j2
      rw [hs, Bool.true_and, show (dirL s != []) = true from bne_iff_ne.2 hn, Bool.true_and]
      rw [Bool.eq_iff_iff, Bool.or_eq_true, beq_iff_eq, underL_iff, underL_iff, hdir, j1, j2]
      simp only [true_and, hs]
      constructor
      · rintro ⟨m, hm, rfl⟩
        by_cases hm2 : m = (splitS s).length - 1
        · left; rw [hm2]
        · right
          exact ⟨m, by rw [List.length_take]; omega, by rw [List.take_take, Nat.min_eq_left (by omega)]⟩
      · rintro (rfl | ⟨m, hm, rfl⟩)
        · exact ⟨_, by omega, rfl⟩
        · rw [List.length_take] at hm
          exact ⟨m, by omega, by rw [List.take_take, Nat.min_eq_left (by omega)]⟩
  · rw [Bool.not_eq_true] at hs
    rw [hs, Bool.false_and]
    unfold underL
    rw [hs, Bool.false_and]
end Go.Proofs.YtjpaajpjajoijaaDoor
