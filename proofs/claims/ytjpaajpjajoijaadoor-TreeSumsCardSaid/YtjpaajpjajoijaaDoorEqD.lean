/- Two digests held against each other. -/
import Derived.Test.YtjpaajpjajoijaaDoorShaJ
import Derived.ChangeKeysEq
namespace Go.Proofs.YtjpaajpjajoijaaDoor
open Go.RowKit Sha
/-- 32 bytes as cells. -/
def Bytes32 (D : Array Value) : Prop := ∀ i, i < 32 → ∃ z, D[i]? = some (.int .u8 z)
theorem under39 : Tryd.prog.underlying 39 = some (.array 32 5) := by kernel_rfl
theorem cells5 : Tryd.prog.cellsOf 5 = 1 := by kernel_rfl
theorem under5u : Tryd.prog.underlying 5 = some (.int .u8) := by kernel_rfl
theorem items_self (D : Array Value) (h : Bytes32 D) (w : World) : ∀ is : List Nat, (∀ i ∈ is, i < 32) → (Op.eqItems 9999 5 1 D D is).run Tryd.prog w = .ok true w
  | [], _ => by simp [Op.eqItems]
  | i :: is, hi => by
    obtain ⟨z, hz⟩ := h i (hi i (by simp))
    have h1 : (part 5 D i).run Tryd.prog w = .ok (.int .u8 z) w := by unfold part; simp [hz]
    have h2 := items_self D h w is fun j hj => hi j (by simp [hj])
    have h3 := run_equalIn_int w 9998 5 .u8 .u8 z z under5u
    simp only [Op.eqItems, Nat.mul_one, Sem.run_bind, h1, Result.andThen_ok, h3]
    simpa using h2
theorem eq39 (D : Array Value) (h : Bytes32 D) (w : World) : (Op.equalIn 10000 39 (.agg D) (.agg D)).run Tryd.prog w = .ok true w := by
  obtain ⟨i0, hi, _⟩ := Option.map_eq_some_iff.1 info5
  rw [run_equalIn_array w 9999 D D under39 hi, cells5]
  exact items_self D h w _ fun i hi => List.mem_range.1 hi
theorem bytes_zb : Bytes32 (zb 32) := fun i hi => by
  refine ⟨0, ?_⟩
  unfold zb
  rw [List.getElem?_toArray, List.getElem?_replicate, if_pos hi]
theorem bytes_D8 (m : List UInt8) : ∃ D, D8 m = .agg D ∧ Bytes32 D := by
  refine ⟨_, rfl, fun i hi => ?_⟩
  unfold dgs
  simp [hi]
end Go.Proofs.YtjpaajpjajoijaaDoor
