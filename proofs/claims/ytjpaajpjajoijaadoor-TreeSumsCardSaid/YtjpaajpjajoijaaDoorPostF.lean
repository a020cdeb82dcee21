/- Slices of files, and a file by value, that come in. -/
import Derived.Test.YtjpaajpjajoijaaDoorPost
import Derived.Test.YtjpaajpjajoijaaDoorFiles
import Derived.Deep.Slices
import Derived.Deep.Fields
import Derived.Lib.SmallJoins
namespace Go.Proofs.YtjpaajpjajoijaaDoor
open Go.ChangeShapes Go.WideShapes Go.ChangeAt Go.RowKit Go.Deep Go.Joins
section
variable {H : Type} {enc : TypeId × Value → H} {P : Program} {w : World} {base : Nat} {spare : Nat → Bool} {held : Bool}
theorem open_slice_fields {t e : TypeId} {fs : Array Field} {fuel : Nat} {cs : List Value} {x : DataW H × List MemPlace} (ht : P.underlying t = some (.slice e)) (he : P.underlying e = some (.struct fs))
    (hone : oneCellFields P fs = true) (hC : P.cellsOf e = fs.size) (h : DataW.trod enc P w base spare held fuel t cs = some x) :
    (cs = [.slice none 0 0] ∧ x = (.nil, [])) ∨
    ∃ (a : Addr) (len cap m : Nat) (D : Nat → DataW H) (Pl : Nat → List MemPlace), cs = [.slice (some a) len cap] ∧ base ≤ a.block ∧ len ≤ cap ∧ cap ≤ maxLen ∧ m = (if spare a.block then cap else len) ∧
      x = (.slice ((List.range len).map D) ((List.range (m - len)).map fun j => D (len + j)), MemPlace.row a (m * fs.size) ++ (List.range m).flatMap Pl) ∧
      ∀ i, i < m → ∃ (ys : List (DataW H × List MemPlace)) (n : Nat), D i = .agg (ys.map (·.1)) ∧ Pl i = ys.flatMap (·.2) ∧ ys.length = fs.size ∧
        ∀ (j : Nat) (f : Field), fs[j]? = some f → ∃ (v : Value) (y : DataW H × List MemPlace), w.cell? (a.add (i * fs.size + j)) = some v ∧ ys[j]? = some y ∧ DataW.trod enc P w base spare held n f.type [v] = some y := by
  rcases open_slice ht h with h0 | ⟨a, len, cap, m, n, D, Pl, hcs, hb, hl, hm, hmm, hx, hi⟩
  · exact .inl h0
  · refine .inr ⟨a, len, cap, m, D, Pl, hcs, hb, hl, hm, hmm, by rw [hC] at hx; exact hx, fun i him => ?_⟩
    obtain ⟨cs', hc, ht'⟩ := hi i him
    rw [hC] at hc
    obtain ⟨ys, n', hn', hy, hlen, hyl, hf⟩ := DataW.trod_struct he ht'
    obtain ⟨_, hcl, hat⟩ := World.cells?_some hc
    simp only [Prod.mk.injEq] at hy
    refine ⟨ys, n', hy.1, hy.2, hyl, fun j f hj => ?_⟩
    obtain ⟨ho, hk⟩ := hone_of hone j f hj
    have hjl : j < fs.size := (Array.getElem?_eq_some_iff.1 hj).1
    have hcell := hat j hjl
    have hv : cs'[j]? = some (cs'[j]'(by omega)) := List.getElem?_eq_getElem (by omega)
    have h1 := hf j f hj
    rw [ho, hk] at h1
    have hone' : (cs'.drop j).take 1 = [cs'[j]'(by omega)] := by
      rw [List.drop_eq_getElem_cons (by omega)]
      rfl
    rw [hone'] at h1
    have hys : ys[j]? = some (ys[j]'(by omega)) := List.getElem?_eq_getElem (by omega)
    refine ⟨_, _, ?_, hys, h1.trans hys⟩
    rw [← Go.Deep.add_add, hcell, hv]
end
/-- A slice of files that came in. -/
theorem open_files {H : Type} {enc : TypeId × Value → H} {W : World} {v : Value} {d : DataW H} {ps : List MemPlace} {ts : List TypeId} {ds : List (DataW H)} {j : Nat} (h : DataW.Trod enc Tryd.prog W 0 (fun _ => true) true 22 v d ps)
    (hsz : (DataW.weightsEach Tryd.prog ts ds).all (· ≤ reachBytes) = true) (ht : ts[j]? = some 22) (hd : ds[j]? = some d) (hv : ∃ a n c, v = .slice a n c) :
    ∃ (A : Option Addr) (c : Nat) (l : List FileB), v = .slice A l.length c ∧ Files W W.heap.size A l ∧ l.length ≤ 4611686018427387904 ∧ ∀ f ∈ l, f.1.size ≤ maxLen ∧ f.2.size ≤ maxLen := by
  obtain ⟨fuel, hf⟩ := h
  obtain ⟨a0, n0, c0, rfl⟩ := hv
  rcases open_slice_fields Tryd.underlying22 Tryd.underlying36 (by kernel_rfl) (by kernel_rfl) hf with ⟨hcs, _⟩ | ⟨a, len, cap, m, D, Pl, hcs, _, hl, _, hm, hx, hi⟩
  · simp [Value.cells] at hcs
    obtain ⟨rfl, rfl, rfl⟩ := hcs
    exact ⟨none, 0, [], rfl, fun h => absurd h (by simp), by simp, fun s hs => by cases hs⟩
  · simp [Value.cells] at hcs
    obtain ⟨rfl, rfl, rfl⟩ := hcs
    simp only [if_true] at hm
    have hsl := sized_slice hsz ht (by rw [hd, (Prod.mk.inj hx).1]) Tryd.underlying22
    have hb32 : Tryd.prog.bytesOf 36 = 32 := by kernel_rfl
    rw [hb32] at hsl
    simp [reachBytes] at hsl
    obtain ⟨g, hg⟩ := choose_lt (α := FileB) (n := n0) (p := fun i f => W.cell? (a.add (i * 2)) = some (.string f.1) ∧ W.cell? ⟨(a.add (i * 2)).block, (a.add (i * 2)).off + 1, none⟩ = some (.string f.2) ∧ f.1.size ≤ maxLen ∧ f.2.size ≤ maxLen) (fun i him => by
      obtain ⟨ys, n', _, _, _, hfj⟩ := hi i (by omega)
      obtain ⟨v0, y0, k0, _, t0⟩ := hfj 0 _ rfl
      obtain ⟨v1, y1, k1, _, t1⟩ := hfj 1 _ rfl
      obtain ⟨s0, e0, _, z0⟩ := DataW.trod_string Tryd.underlying9 t0
      obtain ⟨s1, e1, _, z1⟩ := DataW.trod_string Tryd.underlying9 t1
      injection e0 with e0
      injection e1 with e1
      subst e0
      subst e1
      refine ⟨(s0, s1), k0, ?_, z0, z1⟩
      have h5 : (a.add (i * 2)).add 1 = a.add (i * 2 + 1) := Go.Deep.add_add a (i * 2) 1
      have h6 : (a.add (i * 2)).add 1 = ⟨(a.add (i * 2)).block, (a.add (i * 2)).off + 1, none⟩ := rfl
      rw [← h6, h5]
      exact k1)
    have hll : ((List.range n0).map g).length = n0 := by simp
    refine ⟨some a, c0, (List.range n0).map g, by rw [hll], fun h0 => ⟨a, rfl, ?_, fun j f hj => ?_⟩, by rw [hll]; omega, fun f hf2 => ?_⟩
    · rw [hll] at h0
      have h1 := World.block_lt_of_cell? _ _ (hg 0 h0).1
      rwa [add_block] at h1
    · obtain ⟨hj1, hj2⟩ := List.getElem?_eq_some_iff.1 hj
      rw [hll] at hj1
      simp at hj2
      subst hj2
      exact ⟨(hg j hj1).1, (hg j hj1).2.1⟩
    · obtain ⟨i, hi1, rfl⟩ := List.mem_map.1 hf2
      have hi2 := List.mem_range.1 hi1
      exact ⟨(hg i hi2).2.2.1, (hg i hi2).2.2.2⟩
set_option maxRecDepth 100000 in
/-- A file by value. -/
theorem open_file {H : Type} {enc : TypeId × Value → H} {W : World} {v : Value} {d : DataW H} {ps : List MemPlace} {base : Nat} (h : DataW.Trod enc Tryd.prog W 0 (fun _ => true) true 36 v d ps) (hv : Value.okWide Tryd.prog W .any base 36 v) :
    ∃ f : FileB, v = .agg #[.string f.1, .string f.2] ∧ f.1.size ≤ maxLen ∧ f.2.size ≤ maxLen := by
  obtain ⟨v0, v1, y0, y1, n, rfl, _, _, t0, t1⟩ := open_agg2 Tryd.underlying36 (by kernel_rfl) (by kernel_rfl) hv h
  obtain ⟨s0, e0, _, z0⟩ := DataW.trod_string Tryd.underlying9 t0
  obtain ⟨s1, e1, _, z1⟩ := DataW.trod_string Tryd.underlying9 t1
  injection e0 with e0
  injection e1 with e1
  subst e0
  subst e1
  exact ⟨(s0, s1), rfl, z0, z1⟩
end Go.Proofs.YtjpaajpjajoijaaDoor
