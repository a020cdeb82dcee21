/- Words of memory for bloomeryref02.block: rows of words, the constants as a slice (bloomeryref02.ks). -/
import Derived.Test.YtjpaajpjajoijaaDoorShaB
import Derived.Deep.RegionHeld3
import Derived.Deep.AppendLies
namespace Go.Proofs.YtjpaajpjajoijaaDoor
open Go.RowKit Sha
/-- The words l lie from the cell o of block g on. -/
def WordsAt (w : World) (g o : Nat) (l : List Nat) : Prop := ∀ j, j < l.length → w.cell? ⟨g, o + j, none⟩ = some (.int .u32 ((l.getD j 0 : Nat) : Int))
theorem WordsAt.below {w w' : World} {B g o : Nat} {l : List Nat} (h : WordsAt w g o l) (hb : Below B w w') (hlt : g < B) : WordsAt w' g o l :=
  fun j hj => (hb.cell (p := ⟨g, o + j, none⟩) hlt).trans (h j hj)
theorem info91 : (Tryd.prog.info? 91).map (fun i => (i.zero, i.size, i.bytes)) = some (some (.int .u32 0), 1, 4) := by kernel_rfl
set_option maxHeartbeats 400000 in
set_option maxRecDepth 100000 in
/-- bloomeryref02.ks. -/
theorem ks_any (w : World) :
    Calls Tryd.prog 92 #[] w fun e w' => e = .returned (.slice (some ⟨w.heap.size, 0, none⟩) 64 64) ∧ w.alloc (.cells (Us ks) 91) = w' := by
  go_enter Tryd.func92, Tryd.ntmps92
  go_wp2
  go_ret
  exact ⟨rfl, rfl⟩
theorem BytesAt.four {w : World} {bk off : Nat} {b : List UInt8} (h : BytesAt w bk off b) (k : Nat) (hk : 4 * k + 4 ≤ b.length) :
    BytesAt w bk (off + 4 * k) [b.getD (4 * k) 0, b.getD (4 * k + 1) 0, b.getD (4 * k + 2) 0, b.getD (4 * k + 3) 0] := by
  intro j hj
  have := h (4 * k + j) (by simp at hj; omega)
  rw [Nat.add_assoc, this]
  match j, hj with
  | 0, _ => rfl
  | 1, _ => rfl
  | 2, _ => rfl
  | 3, _ => rfl
  | j + 4, hj => simp at hj; omega
theorem news_sole (w : World) (v : Value) (e : TypeId) : ∀ j u, [v][j]? = some u → (w.alloc (.cells #[v] e)).cell? ((⟨w.heap.size, 0, none⟩ : Addr).add j) = some u :=
  World.news_of_block (cs := #[v]) (t := e) (fr := (0, 0)) (heap_alloc_new w _)
/-- The words that there are when i of them are there. -/
def wl (b : List UInt8) (i : Nat) : List Nat := sch (words b (min i 16)) (i - 16)
theorem wl_length (b : List UInt8) (i : Nat) : (wl b i).length = i := by
  unfold wl; rw [sch_length, words_length]; omega
theorem wl_low (b : List UInt8) (i : Nat) (h : i < 16) : wl b (i + 1) = wl b i ++ [word (b.getD (4 * i) 0) (b.getD (4 * i + 1) 0) (b.getD (4 * i + 2) 0) (b.getD (4 * i + 3) 0)] := by
  unfold wl
  rw [show min (i + 1) 16 = i + 1 from by omega, show min i 16 = i from by omega, show i + 1 - 16 = 0 from by omega, show i - 16 = 0 from by omega]
  rfl
theorem wl_high (b : List UInt8) (i : Nat) (h : 16 ≤ i) : wl b (i + 1) = wl b i ++ [nextw (wl b i)] := by
  unfold wl
  rw [show min (i + 1) 16 = 16 from by omega, show min i 16 = 16 from by omega, show i + 1 - 16 = (i - 16) + 1 from by omega]
  rfl
theorem wl_all (b : List UInt8) : wl b 64 = sched b := rfl
theorem wl_lt (b : List UInt8) (i j : Nat) : (wl b i).getD j 0 < 4294967296 :=
  getD_lt _ (sch_lt _ (words_lt b _) _) j
end Go.Proofs.YtjpaajpjajoijaaDoor
