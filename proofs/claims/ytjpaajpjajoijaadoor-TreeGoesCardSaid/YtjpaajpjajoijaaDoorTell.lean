/- The closure of tree.Diff that tells a change. -/
import Derived.Test.YtjpaajpjajoijaaDoorDiffE
import Derived.Test.YtjpaajpjajoijaaDoorWith
import Derived.OneCell
namespace Go.Proofs.YtjpaajpjajoijaaDoor
set_option linter.unusedVariables false
open Go.RowKit
/-- Changes as cells. -/
def ccells (l : List Chg) : List Value := l.flatMap fun c => [.string c.1, .int .i64 (c.2 : Nat)]
theorem ccells_append (l m : List Chg) : ccells (l ++ m) = ccells l ++ ccells m := by simp [ccells]
theorem ccells_one (c : Chg) : ccells [c] = [.string c.1, .int .i64 (c.2 : Nat)] := rfl
theorem ccells_length (l : List Chg) : (ccells l).length = l.length * 2 := by
  induction l with
  | nil => rfl
  | cons f l ih => rw [show ccells (f :: l) = .string f.1 :: .int .i64 (f.2 : Nat) :: ccells l from rfl, List.length_cons, List.length_cons, ih, List.length_cons]; omega
theorem info30p : (Tryd.prog.info? 30).map (fun i => (i.zero, i.size, i.bytes)) = some (some (.agg #[.string ⟨#[]⟩, .int .i64 0]), 2, 24) := by kernel_rfl
/-- The captured list of changes. -/
structure ToldAt (w : World) (gb base : Nat) (xs : List Chg) : Prop where
  box : ∃ A c, Blk w gb 26 #[.slice A xs.length c] ∧ w.ownsRow base 30 2 (.slice A xs.length c) xs.length (ccells xs)
set_option maxHeartbeats 1000000 in
set_option maxRecDepth 100000 in
theorem tell_any (p : ByteArray) (k : Nat) (xs : List Chg) (gb base : Nat) (w : World) (h : ToldAt w gb base xs) (hgb : gb < base) (hb : base ≤ w.heap.size) (hn : xs.length ≤ 1000) :
    Calls Tryd.prog 46 #[.string p, .int .i64 k, .pointer (some ⟨gb, 0, none⟩)] w fun e w' => e = .returned (.tuple #[]) ∧ ToldAt w' gb base (xs ++ [(p, k)]) ∧ Below gb w w' := by
  obtain ⟨i0, hi, hz0, hz1, hz2⟩ := info_parts info30p
  obtain ⟨A, c, hbox, hown⟩ := h.box
  obtain ⟨n, hne⟩ : ∃ n, n = xs.length := ⟨_, rfl⟩
  rw [← hne] at hbox hown hn
  have k0 : w.cell? ⟨gb, 0, none⟩ = some (.slice A n c) := (hbox.cell 0).trans rfl
  have HBOX := Lib.hid hbox
  have HN := Lib.hid hne
  have hlt := hown.lt
  clear hbox hne h
  go_enter Tryd.func46, Tryd.ntmps46
  go_wp2_with (at_builtin; refine wpList_append_lies _ rfl (.tmp 5) (.tmp 9) 26 rfl base 30 i0 (.agg #[.string ⟨#[]⟩, .int .i64 0]) 2 24 Tryd.underlying26 hi hz0 hz1 hz2 rfl (by decide) (.slice A n c) n _ rfl (hown.alloc _) ⟨w.heap.size, 0, none⟩ 1 1 [.string p, .int .i64 k] rfl rfl (news_two _ _ _ _) (by simp [Value.oneCell']) (by decide) (by unfold maxLen; omega) (by omega) (by simp; omega) _ rfl ?_; intro g2 cap2 w2 hown2 hgrow hat hg2; have hb2 : Blk w2 gb 26 #[.slice A n c] := ((hgrow.block gb (by simp; omega) (by intro e; have := (hlt gb e.symm).1; omega)).trans (HBOX.out.alloc _)); have k1 : w2.cell? ⟨gb, 0, none⟩ = some (.slice A n c) := ((hb2.cell 0).trans rfl); have k2 := hb2.frozen 0; have HB2 := Lib.hid hb2; clear hb2)
  go_end0
  have hgb2 : base ≤ g2 := (hown2.lt g2 rfl).1
  have hxl : (xs ++ [(p, k)]).length = n + 1 := by rw [List.length_append, ← HN.out]; rfl
  refine ⟨rfl, ⟨some ⟨g2, 0, none⟩, cap2, ?_, ?_⟩, ?_⟩
  · rw [hxl]
    exact one_setCell HB2.out.heap
  · rw [hxl, ccells_append, ccells_one]
    exact ownsRow_setCell_other hown2 (by simp [Value.ownBlock]; omega) _
  · exact (((Below.refl gb w).alloc (by omega) _).grown hgrow (by simp; omega) (fun j e => by have := (hlt j e).1; omega)).setCell (by show gb ≤ gb; exact Nat.le_refl _) _
end Go.Proofs.YtjpaajpjajoijaaDoor
