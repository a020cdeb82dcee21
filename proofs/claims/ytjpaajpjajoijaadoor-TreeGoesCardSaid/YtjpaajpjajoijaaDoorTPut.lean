/- tree.Put. -/
import Derived.Test.YtjpaajpjajoijaaDoorSearch
import Derived.Test.YtjpaajpjajoijaaDoorIns
import Derived.Test.YtjpaajpjajoijaaDoorCheck
namespace Go.Proofs.YtjpaajpjajoijaaDoor
set_option linter.unusedVariables false
open Go.RowKit
/-- What Put makes of files that rise: in the place of the file of that path, or between. -/
def placed (l : List FileB) (f : FileB) (i : Nat) : List FileB := if isAt l f.1 i then l.take i ++ f :: l.drop (i + 1) else l.take i ++ f :: l.drop i
theorem isAt_iff {l : List FileB} {p : ByteArray} {i : Nat} : isAt l p i = true ↔ ∃ g, l[i]? = some g ∧ g.1 = p := by
  unfold isAt
  cases l[i]? with
  | none => simp
  | some g => simp [cmpB_eq]
theorem mem_take_iff {α : Type} {l : List α} {i : Nat} {x : α} : x ∈ l.take i ↔ ∃ j, j < i ∧ l[j]? = some x := by
  constructor
  · intro h
    obtain ⟨j, hj⟩ := List.mem_iff_getElem?.1 h
    rw [List.getElem?_take] at hj
    split at hj
    · exact ⟨j, by assumption, hj⟩
    · cases hj
  · rintro ⟨j, h1, h2⟩
    exact List.mem_iff_getElem?.2 ⟨j, by rw [List.getElem?_take, if_pos h1, h2]⟩
theorem mem_drop_iff {α : Type} {l : List α} {i : Nat} {x : α} : x ∈ l.drop i ↔ ∃ j, i ≤ j ∧ l[j]? = some x := by
  constructor
  · intro h
    obtain ⟨j, hj⟩ := List.mem_iff_getElem?.1 h
    rw [List.getElem?_drop] at hj
    exact ⟨i + j, by omega, hj⟩
  · rintro ⟨j, h1, h2⟩
    exact List.mem_iff_getElem?.2 ⟨j - i, by rw [List.getElem?_drop, show i + (j - i) = j from by omega, h2]⟩
theorem placed_rising {l : List FileB} {f : FileB} {i : Nat} (hR : Rising l) (hP : Place l f.1 i) : Rising (placed l f i) := by
  have h1 : ∀ g ∈ l.take i, ltB g.1 f.1 = true := fun g hg => by
    obtain ⟨j, hj, e⟩ := mem_take_iff.1 hg
    exact hP.less j g e hj
  have key : ∀ m : List FileB, m.Sublist l → (∀ g ∈ m, ∃ j, i ≤ j ∧ l[j]? = some g) → Rising m → (∀ g ∈ m, ltB f.1 g.1 = true) → Rising (l.take i ++ f :: m) := fun m hs hm hrm hfm => by
    unfold Rising
    rw [List.pairwise_append]
    refine ⟨hR.sublist (List.take_sublist _ _), List.pairwise_cons.2 ⟨hfm, hrm⟩, fun a ha b hb => ?_⟩
    rcases List.mem_cons.1 hb with rfl | hb
    · exact h1 a ha
    · exact ltB_trans (h1 a ha) (hfm b hb)
  unfold placed
  split
  · rename_i hat
    obtain ⟨g, hg, he⟩ := isAt_iff.1 hat
    refine key _ (List.drop_sublist _ _) (fun x hx => by obtain ⟨j, hj, e⟩ := mem_drop_iff.1 hx; exact ⟨j, by omega, e⟩) (hR.sublist (List.drop_sublist _ _)) fun x hx => ?_
    obtain ⟨j, hj, e⟩ := mem_drop_iff.1 hx
    rw [← he]
    exact rising_get hR hg e (by omega)
  · rename_i hat
    refine key _ (List.drop_sublist _ _) (fun x hx => mem_drop_iff.1 hx) (hR.sublist (List.drop_sublist _ _)) fun x hx => ?_
    obtain ⟨j, hj, e⟩ := mem_drop_iff.1 hx
    cases hq : ltB f.1 x.1 with
    | true => rfl
    | false =>
      have h3 := ltB_total hq (hP.more j x e hj)
      exfalso
      rcases Nat.eq_or_lt_of_le hj with rfl | hlt
      · exact hat (isAt_iff.2 ⟨x, e, h3.symm⟩)
      · have hil : i < l.length := Nat.lt_trans hlt (List.getElem?_eq_some_iff.1 e).1
        have hge := List.getElem?_eq_getElem hil
        have h4 := hP.more i _ hge (Nat.le_refl _)
        rw [h3, rising_get hR hge e hlt] at h4
        cases h4
theorem placed_mem {l : List FileB} {f : FileB} {i : Nat} (hR : Rising l) (hP : Place l f.1 i) (x : FileB) : x ∈ placed l f i ↔ x = f ∨ (x ∈ l ∧ x.1 ≠ f.1) := by
  have hne : ∀ j g, l[j]? = some g → g.1 = f.1 → i ≤ j ∧ isAt l f.1 i = true ∧ j = i := fun j g hg he => by
    have hij : i ≤ j := by
      rcases Nat.lt_or_ge j i with h | h
      · exact absurd he (ltB_ne (hP.less j g hg h))
      · exact h
    rcases Nat.eq_or_lt_of_le hij with rfl | hlt
    · exact ⟨hij, isAt_iff.2 ⟨g, hg, he⟩, rfl⟩
    · have hil : i < l.length := Nat.lt_trans hlt (List.getElem?_eq_some_iff.1 hg).1
      have hge := List.getElem?_eq_getElem hil
      have h4 := hP.more i _ hge (Nat.le_refl _)
      rw [← he, rising_get hR hge hg hlt] at h4
      cases h4
  unfold placed
  split
  · rename_i hat
    obtain ⟨g, hg, he⟩ := isAt_iff.1 hat
    rw [List.mem_append, List.mem_cons, mem_take_iff, mem_drop_iff]
    constructor
    · rintro (⟨j, h1, h2⟩ | h | ⟨j, h1, h2⟩)
      · exact .inr ⟨List.mem_iff_getElem?.2 ⟨j, h2⟩, fun h => by have := (hne j x h2 h).1; omega⟩
      · exact .inl h
      · exact .inr ⟨List.mem_iff_getElem?.2 ⟨j, h2⟩, fun h => by have := (hne j x h2 h).2.2; omega⟩
    · rintro (h | ⟨h, h2⟩)
      · exact .inr (.inl h)
      · obtain ⟨j, hj⟩ := List.mem_iff_getElem?.1 h
        rcases Nat.lt_trichotomy j i with h3 | h3 | h3
        · exact .inl ⟨j, h3, hj⟩
        · subst h3
          rw [hg] at hj
          cases hj
          exact absurd he h2
        · exact .inr (.inr ⟨j, by omega, hj⟩)
  · rename_i hat
    rw [List.mem_append, List.mem_cons, mem_take_iff, mem_drop_iff]
    constructor
    · rintro (⟨j, h1, h2⟩ | h | ⟨j, h1, h2⟩)
      · exact .inr ⟨List.mem_iff_getElem?.2 ⟨j, h2⟩, fun h => hat (hne j x h2 h).2.1⟩
      · exact .inl h
      · exact .inr ⟨List.mem_iff_getElem?.2 ⟨j, h2⟩, fun h => hat (hne j x h2 h).2.1⟩
    · rintro (h | ⟨h, h2⟩)
      · exact .inr (.inl h)
      · obtain ⟨j, hj⟩ := List.mem_iff_getElem?.1 h
        rcases Nat.lt_or_ge j i with h3 | h3
        · exact .inl ⟨j, h3, hj⟩
        · exact .inr (.inr ⟨j, h3, hj⟩)
theorem placed_eq {l : List FileB} {f : FileB} {i : Nat} (hR : Rising l) (hP : Place l f.1 i) : placed l f i = withL l f :=
  rising_files (placed_rising hR hP) (withL_rising hR f) fun x => by rw [placed_mem hR hP x, withL_mem]
theorem place_ex {l : List FileB} (hR : Rising l) (p : ByteArray) : ∃ i, Place l p i := by
  have key : ∀ k, k ≤ l.length → ∃ i, i ≤ k ∧ (∀ j g, l[j]? = some g → j < i → ltB g.1 p = true) ∧ (∀ j g, l[j]? = some g → i ≤ j → j < k → ltB g.1 p = false) := by
    intro k
    induction k with
    | zero => exact fun _ => ⟨0, Nat.le_refl _, fun j g _ h => absurd h (Nat.not_lt_zero _), fun j g _ _ h => absurd h (Nat.not_lt_zero _)⟩
    | succ k ih =>
      intro hk
      obtain ⟨i, h1, h2, h3⟩ := ih (by omega)
      have hge := List.getElem?_eq_getElem (show k < l.length from by omega)
      cases hq : ltB (l[k]'(by omega)).1 p with
      | true =>
        refine ⟨k + 1, Nat.le_refl _, fun j g hj hjk => ?_, fun j g _ h4 h5 => by omega⟩
        rcases Nat.eq_or_lt_of_le (Nat.le_of_lt_succ hjk) with rfl | hlt
        · rw [hge] at hj
          cases hj
          exact hq
        · exact ltB_trans (rising_get hR hj hge hlt) hq
      | false =>
        refine ⟨i, by omega, h2, fun j g hj h4 h5 => ?_⟩
        rcases Nat.eq_or_lt_of_le (Nat.le_of_lt_succ h5) with rfl | hlt
        · rw [hge] at hj
          cases hj
          exact hq
        · exact h3 j g hj h4 hlt
  obtain ⟨i, h1, h2, h3⟩ := key l.length (Nat.le_refl _)
  exact ⟨i, h1, h2, fun j g hj h4 => h3 j g hj h4 (List.getElem?_eq_some_iff.1 hj).1⟩
theorem place_le {l : List FileB} {p : ByteArray} {i j : Nat} (hi : Place l p i) (hj : Place l p j) : i ≤ j := by
  rcases Nat.lt_or_ge j i with h | h
  · have hge := List.getElem?_eq_getElem (show j < l.length from Nat.lt_of_lt_of_le h hi.le)
    have h1 := hi.less j _ hge h
    rw [hj.more j _ hge (Nat.le_refl _)] at h1
    cases h1
  · exact h
theorem bsearch_at (l : List FileB) (p : ByteArray) (A : Option Addr) (c i : Nat) (w : World) (hF : Files w w.heap.size A l) (hn : l.length ≤ 4611686018427387903) (hR : Rising l) (hP : Place l p i) :
    Calls Tryd.prog 51 #[.slice A l.length c, .string p, .func (.func 52) #[] #[]] w fun e w' => e = .returned (.tuple #[.int .i64 (i : Nat), .bool (isAt l p i)]) ∧ Below w.heap.size w w' :=
  (bsearch_any l p A c w hF hn hR).mono fun e w' ⟨j, hj, he, hb⟩ => by
    obtain rfl : i = j := Nat.le_antisymm (place_le hP hj) (place_le hj hP)
    exact ⟨he, hb⟩
theorem put_cells (l : List FileB) (f : FileB) (i : Nat) (cur : List Value) (hi : i < l.length) (ht : cur.take (l.length * 2) = fcells l) (hl : l.length * 2 ≤ cur.length) :
    (splice cur (i * 2) [.string f.1, .string f.2]).take (l.length * 2) = fcells (l.take i ++ f :: l.drop (i + 1)) := by
  rw [fcells_append, show f :: l.drop (i + 1) = [f] ++ l.drop (i + 1) from rfl, fcells_append, fcells_one]
  exact splice_mid cur (fcells (l.take i)) [.string f.1, .string f.2] (fcells (l.drop (i + 1))) (i * 2) 2 (l.length * 2) (by rw [fcells_length, List.length_take]; omega) rfl (fcells l) ht (fcells_length l) (fcells_take l i) (by rw [← fcells_drop]; congr 1; omega) hl (by omega)
set_option maxHeartbeats 4000000 in
set_option maxRecDepth 100000 in
theorem tput_any (l : List FileB) (f : FileB) (A : Option Addr) (c : Nat) (w : World) (hF : Files w w.heap.size A l) (hs : Small l) (hl : l.length ≤ 900) (hf : f.1.size ≤ 300 ∧ f.2.size ≤ 300) :
    Calls Tryd.prog 21 #[.slice A l.length c, .agg #[.string f.1, .string f.2]] w fun e w' => ∃ (A' : Option Addr) (cap : Nat), e = .returned (.slice A' (putL l f).length cap) ∧
      w'.ownsRow w.heap.size 36 2 (.slice A' (putL l f).length cap) (putL l f).length (fcells (putL l f)) ∧ Below w.heap.size w w' := by
  obtain ⟨i0, hi0, hz0i, hz1i, hz2i⟩ := info_parts info36p
  obtain ⟨W0, hW0⟩ : ∃ W0, W0 = w.alloc (.cells #[.string f.1, .string f.2] 36) := ⟨_, rfl⟩
  have hbox : Blk W0 w.heap.size 36 #[.string f.1, .string f.2] := by rw [hW0]; exact Blk.new w 36 #[.string f.1, .string f.2]
  have hz0 : W0.heap.size = w.heap.size + 1 := by rw [hW0, World.size_alloc]
  have hBw : Below w.heap.size w W0 := by rw [hW0]; exact (Below.refl _ _).alloc (Nat.le_refl _) _
  have hF0 : Files W0 W0.heap.size A l := (hF.below hBw (Nat.le_refl _)).more (by omega)
  have hck := tcheck_any l A c W0 hF0 hs
  have hcl := fun w' hb => clone_any l A c w' ((hF0.below hb (Nat.le_refl _)).more hb.size) (by omega)
  have hcb : ∀ wr, Below W0.heap.size W0 wr → wr.cell? ⟨w.heap.size, 0, none⟩ = some (.string f.1) ∧ wr.cell? ⟨w.heap.size, 1, none⟩ = some (.string f.2) := fun wr hb =>
    ⟨((hbox.below hb (by omega)).cell 0).trans rfl, ((hbox.below hb (by omega)).cell 1).trans rfl⟩
  have hpl : putL l f = if checkL l = 0 then (if checkL (withL l f) = 0 then withL l f else []) else [] := rfl
  have hck2 := fun A' c' w' h => tcheck_any (withL l f) A' c' w' h (with_small hs hl hf)
  obtain ⟨P, hP⟩ : ∃ P, P = putL l f := ⟨_, rfl⟩
  obtain ⟨C, hC⟩ : ∃ C, C = checkL l := ⟨_, rfl⟩
  rw [← hP, ← hC] at hpl
  rw [← hC] at hck
  rw [← hP]
  have HCK := Lib.hid hck
  have HCL := Lib.hid hcl
  have HCB := Lib.hid hcb
  have HW0 := Lib.hid hW0
  clear hck hcl hcb hW0 hF hF0 hbox hP
  by_cases hC0 : C = 0
  · rw [if_pos hC0] at hpl
    have hR : Rising l := ((checkL_iff l).1 (hC ▸ hC0)).2
    subst hC0
    obtain ⟨i, hPl⟩ := place_ex hR f.1
    have hpe := placed_eq hR hPl
    have hbs := fun A' c' w' h => bsearch_at l f.1 A' c' i w' h (by omega) hR hPl
    have hin := hPl.le
    have hins := fun A' c' B vb w' ho hv hvb hB => insert_any l f i A' c' B vb w' ho hv hvb hB hin (by omega)
    obtain ⟨X, hX⟩ : ∃ X, X = withL l f := ⟨_, rfl⟩
    rw [← hX] at hpl hck2 hpe
    obtain ⟨D, hD⟩ : ∃ D, D = checkL X := ⟨_, rfl⟩
    simp only [← hD] at hpl hck2
    have HINS := Lib.hid hins
    have HPL := Lib.hid hpl
    clear hC hX hD hins hPl hpl hR
    cases hat : isAt l f.1 i with
    | true =>
      rw [hat] at hbs
      have hp1 : X = l.take i ++ f :: l.drop (i + 1) := by rw [← hpe]; unfold placed; rw [hat]; rfl
      have hil : i < l.length := by
        obtain ⟨g, hg, _⟩ := isAt_iff.1 hat
        exact (List.getElem?_eq_some_iff.1 hg).1
      have hXl : X.length = l.length := by rw [hp1, List.length_append, List.length_cons, List.length_take, List.length_drop]; omega
      rw [hXl] at hck2
      have HCK2 := Lib.hid hck2
      have HBS := Lib.hid hbs
      have hsi : (Tryd.prog.info? 36).map (·.size) = some [Value.string f.1, Value.string f.2].length := by rw [hi0]; simp [hz1i]
      have HP1 := Lib.hid hp1
      have HXL := Lib.hid hXl
      have t1 : (0 : Int) ≤ (i : Int) := by omega
      have t2 : (i : Int) < (l.length : Int) := by omega
      clear hck2 hbs hat hpe hp1 hXl
      by_cases hD0 : D = 0
      · subst hD0
        go_enter Tryd.func21, Tryd.ntmps21
        go_wp2_with fail
        rw [← HW0.out]
        go_wp2_with (first
          | (go_at_call 25; (with_reducible refine HCK.out.mono ?_); rintro e w1 ⟨rfl, b1⟩)
          | (go_at_call 49; (with_reducible refine (HCL.out w1 b1).mono ?_); rintro e w2 ⟨A2, cp2, rfl, own2, b2⟩; have own2' := own_more own2 b1.size; have b2' := b1.trans (b2.mono b1.size); obtain ⟨x1, x2⟩ := HCB.out w2 b2'; have f2 := Files.of_own own2; have hs2 := b2'.size)
          | (go_at_call 51; (with_reducible refine (HBS.out _ _ w2 f2).mono ?_); rintro e w3 ⟨rfl, b3⟩; have own3 := own_below own2' b3; obtain ⟨g, cur, rfl, hBg, hg, hnc, hcm, hcl, htk⟩ := own_open own3 (by omega); have hgr := Lib.hid hg; have htk' := Lib.hid htk; have hcl' := Lib.hid hcl; have b3' := b2'.trans (b3.mono hs2); obtain ⟨x3, x4⟩ := HCB.out w3 b3'; have hs3 := b3'.size; have hfit : i * 2 + [Value.string f.1, Value.string f.2].length ≤ cur.length := (by rw [hcl]; simp; omega); clear hg htk hcl)
          | (refine wpList_store_wide (op := ⟨none, .store 36 (.tmp 24) (.tmp 23), _, _, _, _⟩) rfl 36 (.tmp 24) (.tmp 23) rfl g (i * 2) [.string f.1, .string f.2] _ rfl rfl rfl cur 36 hgr.out hsi hfit (by simp [Value.oneCell']) ?_; intro w4 hg4 hgr4; have b4' : Below W0.heap.size W0 w4 := (b3'.grown hgr4 hs3 (by intro k e; cases e; exact hBg)); have own4 : w4.ownsRow W0.heap.size 36 2 (.slice (some ⟨g, 0, none⟩) l.length cp2) l.length (fcells X) := (own_shut hBg hg4.out hnc hcm (by rw [length_splice _ _ _ hfit]; exact hcl'.out) (by rw [HP1.out]; exact put_cells l f i cur hil htk'.out (by rw [hcl'.out]; omega))); have f4 : Files w4 w4.heap.size (some ⟨g, 0, none⟩) X := (Files.of_own (cap := cp2) (by rw [HXL.out]; exact own4)); have hs4 := b4'.size)
          | (go_at_call 25; (with_reducible refine (HCK2.out _ _ w4 f4).mono ?_); rintro e w5 ⟨rfl, b5⟩; have own5 := own_below own4 b5))
        go_ret
        rw [HPL.out, if_pos True.intro, HXL.out]
        exact ⟨_, _, rfl, own_more own5 (by omega), hBw.trans ((b4'.trans (b5.mono hs4)).mono (by omega))⟩
      · have q1 : (D != 0) = true := bne_iff_ne.2 hD0
        have HD0 := Lib.hid hD0
        clear hD0
        go_enter Tryd.func21, Tryd.ntmps21
        go_wp2_with fail
        rw [← HW0.out]
        go_wp2_with (first
          | (go_at_call 25; (with_reducible refine HCK.out.mono ?_); rintro e w1 ⟨rfl, b1⟩)
          | (go_at_call 49; (with_reducible refine (HCL.out w1 b1).mono ?_); rintro e w2 ⟨A2, cp2, rfl, own2, b2⟩; have own2' := own_more own2 b1.size; have b2' := b1.trans (b2.mono b1.size); obtain ⟨x1, x2⟩ := HCB.out w2 b2'; have f2 := Files.of_own own2; have hs2 := b2'.size)
          | (go_at_call 51; (with_reducible refine (HBS.out _ _ w2 f2).mono ?_); rintro e w3 ⟨rfl, b3⟩; have own3 := own_below own2' b3; obtain ⟨g, cur, rfl, hBg, hg, hnc, hcm, hcl, htk⟩ := own_open own3 (by omega); have hgr := Lib.hid hg; have htk' := Lib.hid htk; have hcl' := Lib.hid hcl; have b3' := b2'.trans (b3.mono hs2); obtain ⟨x3, x4⟩ := HCB.out w3 b3'; have hs3 := b3'.size; have hfit : i * 2 + [Value.string f.1, Value.string f.2].length ≤ cur.length := (by rw [hcl]; simp; omega); clear hg htk hcl)
          | (refine wpList_store_wide (op := ⟨none, .store 36 (.tmp 24) (.tmp 23), _, _, _, _⟩) rfl 36 (.tmp 24) (.tmp 23) rfl g (i * 2) [.string f.1, .string f.2] _ rfl rfl rfl cur 36 hgr.out hsi hfit (by simp [Value.oneCell']) ?_; intro w4 hg4 hgr4; have b4' : Below W0.heap.size W0 w4 := (b3'.grown hgr4 hs3 (by intro k e; cases e; exact hBg)); have own4 : w4.ownsRow W0.heap.size 36 2 (.slice (some ⟨g, 0, none⟩) l.length cp2) l.length (fcells X) := (own_shut hBg hg4.out hnc hcm (by rw [length_splice _ _ _ hfit]; exact hcl'.out) (by rw [HP1.out]; exact put_cells l f i cur hil htk'.out (by rw [hcl'.out]; omega))); have f4 : Files w4 w4.heap.size (some ⟨g, 0, none⟩) X := (Files.of_own (cap := cp2) (by rw [HXL.out]; exact own4)); have hs4 := b4'.size)
          | (go_at_call 25; (with_reducible refine (HCK2.out _ _ w4 f4).mono ?_); rintro e w5 ⟨rfl, b5⟩; have own5 := own_below own4 b5))
        go_ret
        rw [HPL.out, if_neg HD0.out]
        exact ⟨none, 0, rfl, World.ownsRow_nil _ _ _ _, hBw.trans ((b4'.trans (b5.mono hs4)).mono (by omega))⟩
    | false =>
      rw [hat] at hbs
      have hp1 : X = l.take i ++ f :: l.drop i := by rw [← hpe]; unfold placed; rw [hat]; rfl
      have hXl : X.length = l.length + 1 := by rw [hp1, List.length_append, List.length_cons, List.length_take, List.length_drop]; omega
      rw [hXl] at hck2
      have HCK2 := Lib.hid hck2
      have HBS := Lib.hid hbs
      have HP1 := Lib.hid hp1
      have HXL := Lib.hid hXl
      have t1 : (0 : Int) ≤ (i : Int) := by omega
      clear hck2 hbs hat hpe hp1 hXl
      by_cases hD0 : D = 0
      · subst hD0
        go_enter Tryd.func21, Tryd.ntmps21
        go_wp2_with fail
        rw [← HW0.out]
        go_wp2_with (first
          | (go_at_call 25; (with_reducible refine HCK.out.mono ?_); rintro e w1 ⟨rfl, b1⟩)
          | (go_at_call 49; (with_reducible refine (HCL.out w1 b1).mono ?_); rintro e w2 ⟨A2, cp2, rfl, own2, b2⟩; have own2' := own_more own2 b1.size; have b2' := b1.trans (b2.mono b1.size); obtain ⟨x1, x2⟩ := HCB.out w2 b2'; have f2 := Files.of_own own2; have hs2 := b2'.size)
          | (go_at_call 51; (with_reducible refine (HBS.out _ _ w2 f2).mono ?_); rintro e w3 ⟨rfl, b3⟩; have own3 := own_below own2' b3; have b3' := b2'.trans (b3.mono hs2); obtain ⟨x3, x4⟩ := HCB.out w3 b3'; have hs3 := b3'.size; have hvb : ∀ a, A2 = some a → a.block ≠ w3.heap.size := (by intro a e h9; have h8 := (own3.lt a.block (by rw [e]; rfl)).2; omega))
          | (go_at_call 53; (with_reducible refine (HINS.out _ _ W0.heap.size w3.heap.size _ (own3.alloc _) (Blk.new _ _ _) hvb (by simp; omega)).mono ?_); rintro e w4 ⟨A4, cp4, rfl, own4, b4⟩; have b4' := (b3'.alloc hs3 (.cells #[.string f.1, .string f.2] 36)).trans b4; have hs4 := b4'.size; have own4' := own4; rw [← HP1.out] at own4'; have f4 : Files w4 w4.heap.size A4 X := (Files.of_own (cap := cp4) (by rw [HXL.out]; exact own4')))
          | (go_at_call 25; (with_reducible refine (HCK2.out _ _ w4 f4).mono ?_); rintro e w5 ⟨rfl, b5⟩; have own5 := own_below own4' b5))
        go_ret
        rw [HPL.out, if_pos True.intro, HXL.out]
        exact ⟨_, _, rfl, own_more own5 (by omega), hBw.trans ((b4'.trans (b5.mono hs4)).mono (by omega))⟩
      · have q1 : (D != 0) = true := bne_iff_ne.2 hD0
        have HD0 := Lib.hid hD0
        clear hD0
        go_enter Tryd.func21, Tryd.ntmps21
        go_wp2_with fail
        rw [← HW0.out]
        go_wp2_with (first
          | (go_at_call 25; (with_reducible refine HCK.out.mono ?_); rintro e w1 ⟨rfl, b1⟩)
          | (go_at_call 49; (with_reducible refine (HCL.out w1 b1).mono ?_); rintro e w2 ⟨A2, cp2, rfl, own2, b2⟩; have own2' := own_more own2 b1.size; have b2' := b1.trans (b2.mono b1.size); obtain ⟨x1, x2⟩ := HCB.out w2 b2'; have f2 := Files.of_own own2; have hs2 := b2'.size)
          | (go_at_call 51; (with_reducible refine (HBS.out _ _ w2 f2).mono ?_); rintro e w3 ⟨rfl, b3⟩; have own3 := own_below own2' b3; have b3' := b2'.trans (b3.mono hs2); obtain ⟨x3, x4⟩ := HCB.out w3 b3'; have hs3 := b3'.size; have hvb : ∀ a, A2 = some a → a.block ≠ w3.heap.size := (by intro a e h9; have h8 := (own3.lt a.block (by rw [e]; rfl)).2; omega))
          | (go_at_call 53; (with_reducible refine (HINS.out _ _ W0.heap.size w3.heap.size _ (own3.alloc _) (Blk.new _ _ _) hvb (by simp; omega)).mono ?_); rintro e w4 ⟨A4, cp4, rfl, own4, b4⟩; have b4' := (b3'.alloc hs3 (.cells #[.string f.1, .string f.2] 36)).trans b4; have hs4 := b4'.size; have own4' := own4; rw [← HP1.out] at own4'; have f4 : Files w4 w4.heap.size A4 X := (Files.of_own (cap := cp4) (by rw [HXL.out]; exact own4')))
          | (go_at_call 25; (with_reducible refine (HCK2.out _ _ w4 f4).mono ?_); rintro e w5 ⟨rfl, b5⟩; have own5 := own_below own4' b5))
        go_ret
        rw [HPL.out, if_neg HD0.out]
        exact ⟨none, 0, rfl, World.ownsRow_nil _ _ _ _, hBw.trans ((b4'.trans (b5.mono hs4)).mono (by omega))⟩
  · rw [if_neg hC0] at hpl
    have q1 : (C != 0) = true := bne_iff_ne.2 hC0
    subst hpl
    clear hC0 hC
    go_enter Tryd.func21, Tryd.ntmps21
    go_wp2_with fail
    rw [← HW0.out]
    go_wp2_with (go_at_call 25; (with_reducible refine HCK.out.mono ?_); rintro e w1 ⟨rfl, b1⟩)
    go_ret
    exact ⟨none, 0, rfl, World.ownsRow_nil _ _ _ _, hBw.trans (b1.mono (by omega))⟩
end Go.Proofs.YtjpaajpjajoijaaDoor
