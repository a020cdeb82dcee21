/- A slice of bytes of the call's own that may begin inside its block (it has been resliced): 'Win'; cut at the front; an append of bytes from any source, both arms in one law. Over any program. -/
import Derived.Test.YtjpaajpjajoijaaDoorKit
import Derived.Deep.Upon
namespace Go.Proofs.YtjpaajpjajoijaaDoor
open Go.RowKit Sha

/-- The slice '.slice A l.length cap' holds the bytes l; its cells are all there, may be written, and lie in a block from B on that is not g. -/
def Win (w : World) (B g : Nat) (A : Option Addr) (l : List UInt8) (cap : Nat) : Prop :=
  l.length ≤ cap ∧ cap ≤ maxLen ∧ (0 < cap → ∃ b off, A = some ⟨b, off, none⟩ ∧ B ≤ b ∧ b ≠ g ∧ b < w.heap.size ∧ BytesAt w b off l ∧
    ∀ j, j < cap → (w.cell? ⟨b, off + j, none⟩).isSome = true ∧ w.frozen? ⟨b, off + j, none⟩ = false)
/-- All blocks below B, and g, are as they were. -/
structure Kept (w w' : World) (B g : Nat) : Prop where
  os : w'.os = w.os
  tape : w'.tape = w.tape
  output : w'.output = w.output
  size : w.heap.size ≤ w'.heap.size
  block : ∀ k, k < w.heap.size → (k < B ∨ k = g) → w'.heap[k]? = w.heap[k]?
section
variable {w w' w'' : World} {B g cap : Nat} {A : Option Addr} {l : List UInt8} {t : TypeId} {cs : Array Value}
theorem Kept.blk {k : Nat} (h : Kept w w' B g) (hk : k < B ∨ k = g) (hb : Blk w k t cs) : Blk w' k t cs := (h.block k hb.lt hk).trans hb
theorem Kept.below (h : Kept w w' B g) (hB : B ≤ w.heap.size) : Below B w w' := ⟨h.os, h.tape, h.output, h.size, fun k hk => h.block k (by omega) (.inl hk)⟩
theorem Kept.trans (h : Kept w w' B g) (h' : Kept w' w'' B g) : Kept w w'' B g :=
  ⟨h'.os.trans h.os, h'.tape.trans h.tape, h'.output.trans h.output, Nat.le_trans h.size h'.size, fun k hk hp => (h'.block k (Nat.lt_of_lt_of_le hk h.size) hp).trans (h.block k hk hp)⟩
theorem Win.nil : Win w B g none [] 0 := ⟨by simp, by simp [maxLen], fun h => absurd h (by omega)⟩
theorem Win.at_ (h : Win w B g A l cap) (h0 : 0 < l.length) : ∃ b off, A = some ⟨b, off, none⟩ ∧ B ≤ b ∧ b ≠ g ∧ b < w.heap.size ∧ BytesAt w b off l := by
  obtain ⟨b, off, h1, h2, h3, h4, h5, _⟩ := h.2.2 (by have := h.1; omega)
  exact ⟨b, off, h1, h2, h3, h4, h5⟩
theorem Win.keep (h : Win w B g A l cap) (hk : ∀ b, B ≤ b → b ≠ g → b < w.heap.size → w'.heap[b]? = w.heap[b]?) (hs : w.heap.size ≤ w'.heap.size) : Win w' B g A l cap :=
  ⟨h.1, h.2.1, fun h0 => by
    obtain ⟨b, off, h1, h2, h3, h4, h5, h6⟩ := h.2.2 h0
    have e := hk b h2 h3 h4
    refine ⟨b, off, h1, h2, h3, by omega, h5.keep fun o => World.cell?_of_block (a := ⟨b, o, none⟩) e, fun j hj => ?_⟩
    rw [World.cell?_of_block (a := ⟨b, off + j, none⟩) e, World.frozen?_of_block (a := ⟨b, off + j, none⟩) e]
    exact h6 j hj⟩
theorem Win.drewN (h : Win w B g A l cap) (n : Nat) : Win (w.drewN n) B g A l cap := h
theorem Win.alloc (h : Win w B g A l cap) (o : Obj) : Win (w.alloc o) B g A l cap :=
  h.keep (fun b _ _ hb => Below.heap_alloc w o b hb) (by simp)
theorem Win.below {C : Nat} (h : Win w B g A l cap) (hb : Below C w w') (hC : w.heap.size ≤ C) : Win w' B g A l cap :=
  h.keep (fun b _ _ hlt => hb.block b (by omega)) hb.size
theorem Win.setCell (h : Win w B g A l cap) (o : Nat) (u : Value) : Win (w.setCell ⟨g, o, none⟩ u) B g A l cap :=
  h.keep (fun b _ hne _ => Below.heap_setCell w ⟨g, o, none⟩ u b hne) (by simp [World.setCell])
theorem Win.grown (h : Win w B g A l cap) (hg : w.grownBy w' (some g)) : Win w' B g A l cap :=
  h.keep (fun b _ hne hlt => hg.block b hlt (by simpa using hne)) hg.size
theorem Win.cut (h : Win w B g A l cap) {k : Nat} (hk : k ≤ l.length) : Win w B g (if cap = k then A else A.map (·.add k)) (l.drop k) (cap - k) := by
  have hl := h.1
  refine ⟨by rw [List.length_drop]; omega, by have := h.2.1; omega, fun h0 => ?_⟩
  obtain ⟨b, off, rfl, h2, h3, h4, h5, h6⟩ := h.2.2 (by omega)
  rw [if_neg (by omega)]
  refine ⟨b, off + k, by unfold Addr.add; split <;> simp_all, h2, h3, h4, fun j hj => ?_, fun j hj => ?_⟩
  · rw [List.length_drop] at hj
    rw [Nat.add_assoc, h5 (k + j) (by omega)]
    simp [List.getD, List.getElem?_drop]
  · rw [Nat.add_assoc]
    exact h6 (k + j) (by omega)
theorem BytesAt.take {b off n : Nat} (h : BytesAt w b off l) : BytesAt w b off (l.take n) := fun j hj => by
  rw [List.length_take] at hj
  rw [h j (by omega)]
  simp [List.getD, show j < n from by omega]
theorem BytesAt.cells {b off : Nat} (h : BytesAt w b off l) : ∀ (j : Nat) (u : Value), (l.map Bv)[j]? = some u → w.cell? ((⟨b, off, none⟩ : Addr).add j) = some u := by
  intro j u hu
  have hj : j < l.length := by
    rw [List.getElem?_map] at hu
    cases hx : l[j]? with
    | none => simp [hx] at hu
    | some x => exact (List.getElem?_eq_some_iff.1 hx).1
  have h1 : (⟨b, off, none⟩ : Addr).add j = ⟨b, off + j, none⟩ := by unfold Addr.add; split <;> simp_all
  rw [h1, h j hj, ← hu]
  simp [Bv, List.getD, List.getElem?_eq_getElem hj]
theorem one_Bv (l : List UInt8) : ∀ u ∈ l.map Bv, u.oneCell' = true := by
  intro u hu
  obtain ⟨x, _, rfl⟩ := List.mem_map.1 hu
  rfl
theorem tape_setCells (b : Nat) : ∀ (vs : List Value) (o : Nat) (w : World), (w.setCells b o vs).tape = w.tape
  | [], _, _ => rfl
  | v :: r, o, w => by rw [World.setCells, tape_setCells b r]; rfl
theorem size_setCells (b : Nat) : ∀ (vs : List Value) (o : Nat) (w : World), (w.setCells b o vs).heap.size = w.heap.size
  | [], _, _ => rfl
  | v :: r, o, w => by rw [World.setCells, size_setCells b r]; simp [World.setCell]
end

section
variable {P : Program} {w : World} {B g cap : Nat} {A : Option Addr} {l news : List UInt8}
theorem run_append_win (t tx ty e : TypeId) (i : TypeInfo) (z : Value) (ht : P.underlying t = some (.slice e)) (hi : P.info? e = some i) (hz : i.zero = some z) (hsize : i.size = 1) (hby : i.bytes = 1) (hzs : z.cells.size = 1)
    (h : Win w B g A l cap) (hB : B ≤ w.heap.size) (hg : g < w.heap.size) (x : Value) (hs : Src P 1 tx x news.length (news.map Bv) w) (h63 : l.length + news.length ≤ 140737488355328) :
    ∃ A' c' w', (Builtin.append_ #[t, tx] ty #[.slice A l.length cap, x]).run P w = .ok (.slice A' (l ++ news).length c') w' ∧ Win w' B g A' (l ++ news) c' ∧ Kept w w' B g := by
  have hL : (l ++ news).length = l.length + news.length := List.length_append
  rcases Nat.lt_or_ge cap (l.length + news.length) with hlt | hge
  · have hold : (Builtin.firstCells i.size l.length (.slice A l.length cap)).run P w.drew = .ok (l.map Bv).toArray w.drew := by
      rw [hsize]
      cases A with
      | none =>
        have h0 : l = [] := by
          rcases Nat.eq_zero_or_pos cap with h0 | h0
          · exact List.eq_nil_of_length_eq_zero (by have := h.1; omega)
          · obtain ⟨_, _, h1, _⟩ := h.2.2 h0
            cases h1
        subst h0
        exact run_firstCells_none w.drew 1 0 0 cap
      | some a =>
        refine run_firstCells_some w.drew 1 l.length a l.length cap (l.map Bv) (by simp) (fun j u hu => ?_)
        have hj : j < l.length := by
          rw [List.getElem?_map] at hu
          cases hx : l[j]? with
          | none => simp [hx] at hu
          | some x => exact (List.getElem?_eq_some_iff.1 hx).1
        obtain ⟨b, off, h1, _, _, _, h5⟩ := h.at_ (by omega)
        cases h1
        exact h5.cells j u hu
    have hfit : Builtin.nextslicecap (l.length + news.length) cap * i.bytes ≤ 281474976710656 := growslice_fits hlt (by rw [hby]; omega)
    have hrun := run_append_grow_src (P := P) w t tx ty e i z ht hi hz A l.length cap (l.map Bv) hold x news.length (news.map Bv) (by rw [hsize]; exact hs) hlt (by omega) hfit
    have hge := grownCap_ge w (l.length + news.length) cap e
    have hcm := grownCap_le_maxLen w (l.length + news.length) cap e (by unfold maxLen; omega)
    obtain ⟨c, hc⟩ : ∃ c, c = grownCap w (l.length + news.length) cap e := ⟨_, rfl⟩
    rw [← hc] at hrun hge hcm
    rw [show (l.map Bv ++ news.map Bv) = (l ++ news).map Bv from by rw [List.map_append]] at hrun
    have hb := Blk.new w.drew e (((l ++ news).map Bv).toArray ++ Builtin.zeroCells z.cells (c - (l.length + news.length)))
    rw [← hL] at hrun hb
    refine ⟨_, _, _, hrun, ⟨by rw [hL]; exact hge, hcm, fun _ => ⟨w.heap.size, 0, rfl, hB, by omega, by simp, fun j hj => ?_, fun j hj => ⟨?_, ?_⟩⟩⟩, ⟨rfl, rfl, rfl, by simp, fun k hk _ => Below.heap_alloc w.drew _ k hk⟩⟩
    · rw [Nat.zero_add]
      refine (hb.cell j).trans ?_
      rw [Array.getElem?_append_left (by simpa using hj), List.getElem?_toArray, List.getElem?_map, List.getElem?_eq_getElem hj]
      simp [Bv, List.getD, List.getElem?_eq_getElem hj]
    · rw [Nat.zero_add]
      refine (congrArg Option.isSome (hb.cell j)).trans ?_
      rw [Array.getElem?_eq_getElem (by simp only [Array.size_append, List.size_toArray, size_zeroCells, hzs, List.length_map, hL, Nat.mul_one]; omega)]
      rfl
    · rw [Nat.zero_add]
      exact hb.frozen j
  · have h0 := h.2.2
    rcases Nat.eq_zero_or_pos cap with hc | hc
    · subst hc
      have hl0 : l = [] := List.eq_nil_of_length_eq_zero (by omega)
      have hn0 : news = [] := List.eq_nil_of_length_eq_zero (by omega)
      subst hl0; subst hn0
      exact ⟨A, 0, w, run_append_nothing w t tx ty e i ht hi A 0 0 (Nat.le_refl _) x (by rw [hsize]; exact hs), h, ⟨rfl, rfl, rfl, Nat.le_refl _, fun _ _ _ => rfl⟩⟩
    · obtain ⟨b, off, rfl, h2, h3, h4, h5, h6⟩ := h0 hc
      have hrun := run_append_room_src (P := P) w t tx ty e i ht hi b off l.length cap x news.length (news.map Bv) (by rw [hsize]; exact hs) hge
        (fun j hj => by rw [hsize, Nat.mul_one, Nat.add_assoc]; exact (h6 _ (by simp at hj; omega)).1) (fun j hj => by rw [hsize, Nat.mul_one, Nat.add_assoc]; exact (h6 _ (by simp at hj; omega)).2)
      rw [hsize, Nat.mul_one] at hrun
      refine ⟨_, _, _, by rw [hL]; exact hrun, ⟨by omega, h.2.1, fun _ => ⟨b, off, rfl, h2, h3, by rw [size_setCells]; exact h4, fun j hj => ?_, fun j hj => ?_⟩⟩,
        ⟨World.os_setCells _ _ _ _, tape_setCells _ _ _ _, World.output_setCells _ _ _ _, by rw [size_setCells]; exact Nat.le_refl _, fun k hk hp => World.heap_setCells_other w b _ _ hk (by omega)⟩⟩
      · by_cases hjl : j < l.length
        · rw [World.cell?_setCells_out b _ _ _ _ (fun _ _ => Or.inl (by show off + j < off + l.length; omega)), h5 j hjl]
          simp [List.getD, List.getElem?_append_left hjl]
        · have hin := World.cell?_setCells_in b (news.map Bv) (off + l.length) w (fun j' hj' => by rw [Nat.add_assoc]; exact (h6 _ (by simp at hj'; omega)).1) (j - l.length) (by simp; omega)
          rw [show off + l.length + (j - l.length) = off + j from by omega] at hin
          rw [hin]
          rw [List.getD, List.getElem?_append_right (by omega)]
          simp [Bv, List.getElem?_eq_getElem (show j - l.length < news.length from by omega)]
      · refine ⟨?_, by rw [World.frozen?_setCells]; exact (h6 j hj).2⟩
        by_cases hjl : off + j < off + l.length ∨ off + l.length + (news.map Bv).length ≤ off + j
        · rw [World.cell?_setCells_out b _ _ _ _ (fun _ _ => hjl)]
          exact (h6 j hj).1
        · have hin := World.cell?_setCells_in b (news.map Bv) (off + l.length) w (fun j' hj' => by rw [Nat.add_assoc]; exact (h6 _ (by simp at hj'; omega)).1) (j - l.length) (by omega)
          rw [show off + l.length + (j - l.length) = off + j from by omega] at hin
          rw [hin]
          rfl
theorem wpList_append_win {ops : Array Oper} {rest : List Oper} {o : Oper} {a : Act} {Q : Exit → Act → World → Prop} (hgd : o.guard = none) (s x : Operand) (t tx : TypeId)
    (ho : o.op = .call { callee := .builtin .append, args := #[s, x], argTypes := #[t, tx] })
    (e : TypeId) (i : TypeInfo) (z : Value) (ht : P.underlying t = some (.slice e)) (hi : P.info? e = some i) (hz : i.zero = some z) (hsize : i.size = 1) (hby : i.bytes = 1) (hzs : z.cells.size = 1)
    (n : Nat) (hv : a.eval s = .slice A n cap) (hn : n = l.length) (h : Win w B g A l cap) (hB : B ≤ w.heap.size) (hg : g < w.heap.size) (xv : Value) (hx : a.eval x = xv) (hs : Src P 1 tx xv news.length (news.map Bv) w) (h63 : l.length + news.length ≤ 140737488355328)
    (hK : ∀ A' c' w', Win w' B g A' (l ++ news) c' → Kept w w' B g → wpList P ops Q rest (a.put o.dst (.slice A' (l ++ news).length c')) w') : wpList P ops Q (o :: rest) a w := by
  subst hn
  refine wpList_plain hgd fun K hK' => ?_
  obtain ⟨A', c', w', hrun, h1, h2⟩ := run_append_win (P := P) t tx o.type e i z ht hi hz hsize hby hzs h hB hg xv hs h63
  unfold Oper.wp
  simp [execOp, ho, resolve, invoke, builtin, hv, hx, hrun, Result.andThen]
  have := hK A' c' w' h1 h2
  rw [List.length_append] at this
  exact hK' _ _ this
/-- The sources: bytes that lie in memory; one byte just built; a text's bytes. -/
theorem Src.bytes {tx e' : TypeId} (hk : P.underlying tx = some (.slice e')) (b off c : Nat) (l : List UInt8) (h : BytesAt w b off l) : Src P 1 tx (.slice (some ⟨b, off, none⟩) l.length c) l.length (l.map Bv) w :=
  Src.ofSlice w hk _ _ _ _ (by simp) h.cells (one_Bv l)
theorem Src.text {tx : TypeId} (hk : P.underlying tx = some .string) (s : ByteArray) : Src P 1 tx (.string s) s.data.toList.length (s.data.toList.map Bv) w :=
  Src.ofString (P := P) w hk s
theorem BytesAt.one (w : World) (x : UInt8) (t : TypeId) : BytesAt (w.alloc (.cells #[.int .u8 (x.toNat : Int)] t)) w.heap.size 0 [x] := fun j hj => by
  obtain rfl : j = 0 := by simpa using hj
  rw [World.cell?_alloc_new]
  rfl
end
end Go.Proofs.YtjpaajpjajoijaaDoor
