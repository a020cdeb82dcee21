/- Two digests held against each other. -/
import Derived.Test.YtjpaajpjajoijaaO
import Derived.ChangeKeysEq
namespace Go.Proofs.Ytjpaajpjajoijaa
open Go.RowKit Sha
theorem under27 : Try.prog.underlying 27 = some (.array 32 5) := by kernel_rfl
theorem cells5 : Try.prog.cellsOf 5 = 1 := by kernel_rfl
theorem part_Dg (d : List UInt8) (i : Nat) (h : i < d.length) (w : World) : (part 5 (Dg d) i).run Try.prog w = .ok (.int .u8 (d[i].toNat : Int)) w := by
  unfold part
  simp [Dg_get d i h]
theorem items_refl (d : List UInt8) (w : World) : ∀ is : List Nat, (∀ i ∈ is, i < d.length) → (Op.eqItems 9999 5 1 (Dg d) (Dg d) is).run Try.prog w = .ok true w
  | [], _ => by simp [Op.eqItems]
  | i :: is, h => by
    have h1 := part_Dg d i (h i (by simp)) w
    have h2 := items_refl d w is fun j hj => h j (by simp [hj])
    have h3 := run_equalIn_int w 9998 5 .u8 .u8 (d[i]'(h i (by simp))).toNat (d[i]'(h i (by simp))).toNat agg5
    simp only [Op.eqItems, Nat.mul_one, Sem.run_bind, h1, Result.andThen_ok, h3]
    simpa using h2
theorem eq27 (d : List UInt8) (hd : d.length = 32) (w : World) : (Op.equalIn 10000 27 (.agg (Dg d)) (.agg (Dg d))).run Try.prog w = .ok true w := by
  obtain ⟨i0, hi, _⟩ := Option.map_eq_some_iff.1 info5
  rw [run_equalIn_array w 9999 (Dg d) (Dg d) under27 hi, cells5]
  exact items_refl d w _ fun i hi => by rw [hd]; exact List.mem_range.1 hi
end Go.Proofs.Ytjpaajpjajoijaa
