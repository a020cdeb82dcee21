/- Slices of files that come in: their lengths are no more than their capacities. -/
import Derived.Test.YtjpaajpjajoijaaDoorPostF
namespace Go.Proofs.YtjpaajpjajoijaaDoor
set_option linter.unusedVariables false
open Go.ChangeShapes Go.WideShapes Go.ChangeAt Go.RowKit Go.Deep Go.Joins
set_option maxRecDepth 100000 in
theorem open_filesC {H : Type} {enc : TypeId × Value → H} {W : World} {v : Value} {d : DataW H} {ps : List MemPlace} {ts : List TypeId} {ds : List (DataW H)} {j : Nat} (h : DataW.Trod enc Tryd.prog W 0 (fun _ => true) true 22 v d ps)
    (hsz : (DataW.weightsEach Tryd.prog ts ds).all (· ≤ reachBytes) = true) (ht : ts[j]? = some 22) (hd : ds[j]? = some d) (hv : ∃ a n c, v = .slice a n c) :
    ∃ (A : Option Addr) (c : Nat) (l : List FileB), v = .slice A l.length c ∧ Files W W.heap.size A l ∧ l.length ≤ 4611686018427387904 ∧ (∀ f ∈ l, f.1.size ≤ maxLen ∧ f.2.size ≤ maxLen) ∧ l.length ≤ c := by
  obtain ⟨fuel, hf⟩ := h
  obtain ⟨a0, n0, c0, rfl⟩ := hv
  rcases open_slice_fields Tryd.underlying22 Tryd.underlying36 (by kernel_rfl) (by kernel_rfl) hf with ⟨hcs, _⟩ | ⟨a, len, cap, m, D, Pl, hcs, _, hl, _, hm, hx, hi⟩
  · simp [Value.cells] at hcs
    obtain ⟨rfl, rfl, rfl⟩ := hcs
    exact ⟨none, 0, [], rfl, fun h => absurd h (by simp), by simp, fun s hs => (by cases hs), by simp⟩
  · simp [Value.cells] at hcs
    obtain ⟨rfl, rfl, rfl⟩ := hcs
    simp only [if_true] at hm
    have hsl := sized_slice hsz ht (by rw [hd, (Prod.mk.inj hx).1]) Tryd.underlying22
    have hb32 : Tryd.prog.bytesOf 36 = 32 := by kernel_rfl
    rw [hb32] at hsl
    simp [reachBytes] at hsl
    obtain ⟨g, hg⟩ := choose_lt (α := FileB) (n := n0) (p := fun i f => W.cell? (a.add (i * 2)) = some (.string f.1) ∧ W.cell? ⟨(a.add (i * 2)).block, (a.add (i * 2)).off + 1, none⟩ = some (.string f.2) ∧ f.1.size ≤ maxLen ∧ f.2.size ≤ maxLen) (fun i him => by
      obtain ⟨ys, n', _, _, _, hfj⟩ := hi i (by omega)
      obtain ⟨v0, y0, k0, _, t0⟩ := hfj 0 _ rfl
      obtain ⟨v1, y1, k1, _, t1⟩ := hfj 1 _ rfl
      obtain ⟨s0, e0, _, z0⟩ := DataW.trod_string Tryd.underlying9 t0
      obtain ⟨s1, e1, _, z1⟩ := DataW.trod_string Tryd.underlying9 t1
      injection e0 with e0
      injection e1 with e1
      subst e0
      subst e1
      refine ⟨(s0, s1), k0, ?_, z0, z1⟩
      have h5 : (a.add (i * 2)).add 1 = a.add (i * 2 + 1) := Go.Deep.add_add a (i * 2) 1
      have h6 : (a.add (i * 2)).add 1 = ⟨(a.add (i * 2)).block, (a.add (i * 2)).off + 1, none⟩ := rfl
      rw [← h6, h5]
      exact k1)
    have hll : ((List.range n0).map g).length = n0 := by simp
    refine ⟨some a, c0, (List.range n0).map g, by rw [hll], fun h0 => ⟨a, rfl, ?_, fun j f hj => ?_⟩, by rw [hll]; omega, fun f hf2 => ?_, by rw [hll]; exact hl⟩
    · rw [hll] at h0
      have h1 := World.block_lt_of_cell? _ _ (hg 0 h0).1
      rwa [add_block] at h1
    · obtain ⟨hj1, hj2⟩ := List.getElem?_eq_some_iff.1 hj
      rw [hll] at hj1
      simp at hj2
      subst hj2
      exact ⟨(hg j hj1).1, (hg j hj1).2.1⟩
    · obtain ⟨i, hi1, rfl⟩ := List.mem_map.1 hf2
      have hi2 := List.mem_range.1 hi1
      exact ⟨(hg i hi2).2.2.1, (hg i hi2).2.2.2⟩
end Go.Proofs.YtjpaajpjajoijaaDoor
