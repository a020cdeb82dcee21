/- Small words and laws of the walk, over any program: words of memory (Blk, Reads: out of the guide's pages of lemmas to copy), whole arrays by value, rows of words and of bytes. -/
import Derived.WalkKit
import Derived.WalkSpells
import Derived.WalkLawsBesides
import Derived.Deep.WholeRow
import Derived.Deep.Draws
import Derived.Deep.AppendLies
import Derived.Lib.Hide
import Derived.KernelRfl
import Derived.Test.YtjpaajpjajoijaaDoorSpec
namespace Go.Proofs.YtjpaajpjajoijaaDoor
open Go.RowKit Sha

/-! ### words as values -/
def U (n : Nat) : Value := .int .u32 (n : Int)
def Us (l : List Nat) : Array Value := (l.map U).toArray
def zs (n : Nat) : Array Value := Us (List.replicate n 0)
def Bv (x : UInt8) : Value := .int .u8 (x.toNat : Int)
theorem size_Us (l : List Nat) : (Us l).size = l.length := by simp [Us]
theorem one_Us (l : List Nat) : (Us l).all (·.oneCell') = true := by simp [Us, U, Value.oneCell']
theorem get_Us (l : List Nat) (i : Nat) (h : i < l.length) : (Us l)[i]? = some (.int .u32 ((l.getD i 0 : Nat) : Int)) := by
  simp [Us, U, List.getD, List.getElem?_eq_getElem h]
theorem set_Us (l : List Nat) (i : Nat) (x : Nat) : (Us l).setIfInBounds i (.int .u32 (x : Int)) = Us (l.set i x) := by
  simp [Us, U, List.map_set]

/-! ### whole arrays by value -/
section
variable {P : Program}
theorem wpList_allocR {ops : Array Oper} {rest : List Oper} {o : Oper} {a : Act} {w : World} {Q : Exit → Act → World → Prop} (hgd : o.guard = none) (t : TypeId) (ho : o.op = .alloc t)
    (cs : Array Value) (hz : (zeroValue t).run P w = .ok (.agg cs) w)
    (h : wpList P ops Q rest (a.put o.dst (.pointer (some ⟨w.heap.size, 0, none⟩))) (w.alloc (.cells cs t))) : wpList P ops Q (o :: rest) a w :=
  wpList_plain hgd fun K hK => by
    unfold Oper.wp execOp
    simp only [ho, Instr.alloc, Sem.run_bind, hz, Result.andThen_ok, newVar, Value.cells, Sem.run_pure]
    exact hK _ _ h
theorem wpList_buildR {ops : Array Oper} {rest : List Oper} {o : Oper} {a : Act} {w : World} {Q : Exit → Act → World → Prop} (hgd : o.guard = none) (t : TypeId) (parts : Array (Nat × Operand)) (ho : o.op = .build t parts)
    (cs : Array Value) (hf : P.built t (parts.map fun (i, x) => (i, a.eval x)).toList = some cs)
    (h : wpList P ops Q rest (a.put o.dst (.agg cs)) w) : wpList P ops Q (o :: rest) a w :=
  wpList_build hgd t parts ho (by rw [hf]; rfl) (by rw [hf]; exact h)
/-- A whole array into the block that was made last. -/
theorem wpList_storeR {ops : Array Oper} {rest : List Oper} {o : Oper} {a : Act} {w : World} {Q : Exit → Act → World → Prop} (hgd : o.guard = none) (ty : TypeId) (x y : Operand) (ho : o.op = .store ty x y)
    (t : TypeId) (old cs : Array Value) (hx : a.eval x = .pointer (some ⟨w.heap.size, 0, none⟩)) (hy : a.eval y = .agg cs) (hi : (P.info? ty).map (·.size) = some cs.size)
    (hold : old.size = cs.size) (h1 : cs.all (·.oneCell') = true)
    (h : wpList P ops Q rest (a.put o.dst undef) (w.alloc (.cells cs t))) : wpList P ops Q (o :: rest) a (w.alloc (.cells old t)) :=
  wpList_store_row hgd ty x y ho w.heap.size cs hx hy t old (heap_alloc_last w _) hi hold h1 (by rw [World.setRow_alloc_new]; exact h)
end

/-! ### a block that is known whole -/
def Blk (w : World) (g : Nat) (t : TypeId) (cs : Array Value) : Prop := w.heap[g]? = some (.cells cs t (0, 0))
section
variable {w w' : World} {g : Nat} {t : TypeId} {cs : Array Value}
theorem Blk.lt (h : Blk w g t cs) : g < w.heap.size := by
  rcases Nat.lt_or_ge g w.heap.size with hlt | hge
  · exact hlt
  · unfold Blk at h; rw [Array.getElem?_eq_none hge] at h; cases h
theorem Blk.heap (h : Blk w g t cs) : w.heap[g]? = some (.cells cs t (0, 0)) := h
theorem Blk.cell (h : Blk w g t cs) (i : Nat) : w.cell? ⟨g, i, none⟩ = cs[i]? := cell_of_row w g i cs t (0, 0) h
theorem Blk.frozen (h : Blk w g t cs) (i : Nat) : w.frozen? ⟨g, i, none⟩ = false := by
  unfold Blk at h
  simp [World.frozen?, h]
theorem Blk.new (w : World) (t : TypeId) (cs : Array Value) : Blk (w.alloc (.cells cs t)) w.heap.size t cs := heap_alloc_new w _
theorem Blk.drew (h : Blk w g t cs) : Blk w.drew g t cs := h
theorem Blk.drewN (h : Blk w g t cs) (n : Nat) : Blk (w.drewN n) g t cs := h
theorem Blk.alloc (h : Blk w g t cs) (o : Obj) : Blk (w.alloc o) g t cs := (Below.heap_alloc w o g h.lt).trans h
theorem Blk.set_ (h : Blk w g t cs) (i : Nat) (u : Value) : Blk (w.setCell ⟨g, i, none⟩ u) g t (cs.setIfInBounds i u) := by
  unfold Blk at h ⊢
  simp [World.setCell, Array.getElem?_modify, h]
theorem Blk.far (h : Blk w g t cs) {p : Addr} (hp : g ≠ p.block) (u : Value) : Blk (w.setCell p u) g t cs := (Below.heap_setCell w p u g hp).trans h
theorem Blk.below {B : Nat} (h : Blk w g t cs) (hb : Below B w w') (hg : g < B) : Blk w' g t cs := (hb.block g hg).trans h
theorem Blk.ne_ {g' : Nat} {t' : TypeId} {cs' : Array Value} (h : Blk w g t cs) (h' : Blk w g' t' cs') (hne : t ≠ t') : g ≠ g' := by
  rintro rfl
  unfold Blk at h h'
  rw [h] at h'
  injection h' with h'
  injection h' with _ ht
  exact hne ht
theorem blk_setRow (h : Blk w g t cs) (cs' : Array Value) : Blk (w.setRow g cs') g t cs' := setRow_heap w g cs cs' t (0, 0) h
theorem Blk.setRow_far {g' : Nat} (h : Blk w g t cs) (hne : g' ≠ g) (cs' : Array Value) : Blk (w.setRow g' cs') g t cs := (setRow_other w g' g cs' hne.symm).trans h
theorem Blk.grown {row : Option Nat} (h : Blk w g t cs) (hb : w.grownBy w' row) (hg : some g ≠ row) : Blk w' g t cs := (hb.block g h.lt hg).trans h
end

/-! ### bytes in memory -/
/-- The bytes b lie from the cell off of block bk on. -/
def BytesAt (w : World) (bk off : Nat) (b : List UInt8) : Prop := ∀ j, j < b.length → w.cell? ⟨bk, off + j, none⟩ = some (.int .u8 ((b.getD j 0).toNat : Int))
theorem BytesAt.keep {w w' : World} {bk off : Nat} {b : List UInt8} (h : BytesAt w bk off b) (hk : ∀ o, w'.cell? ⟨bk, o, none⟩ = w.cell? ⟨bk, o, none⟩) : BytesAt w' bk off b :=
  fun j hj => (hk _).trans (h j hj)
theorem BytesAt.below {w w' : World} {B bk off : Nat} {b : List UInt8} (h : BytesAt w bk off b) (hb : Below B w w') (hlt : bk < B) : BytesAt w' bk off b :=
  h.keep fun o => hb.cell (p := ⟨bk, o, none⟩) hlt
theorem below_drewN {B : Nat} {a w : World} (h : Below B a w) (n : Nat) : Below B a (w.drewN n) := ⟨h.os, h.tape, h.output, h.size, h.block⟩
theorem BytesAt.lt {w : World} {bk off : Nat} {b : List UInt8} (h : BytesAt w bk off b) (hb : 0 < b.length) : bk < w.heap.size := block_lt_of_cell (h 0 hb)

/-! ### numbers -/
theorem or_join (x y : Nat) (hy : y < 256) : bits .or .u32 ((x * 256 % 4294967296 : Nat) : Int) (y : Int) = (((x * 256 + y) % 4294967296 : Nat) : Int) := by
  rw [u32_or_nat _ _ (Nat.mod_lt _ (by omega)) (by omega), nat_join 8 _ _ (by omega) (by omega)]
  congr 1
  omega

end Go.Proofs.YtjpaajpjajoijaaDoor
