/- bloomerylaw02.joined. -/
import Derived.Test.YtjpaajpjajoijaaH
namespace Go.Proofs.Ytjpaajpjajoijaa
open Go.RowKit Sha
/-- What joined tells. -/
def Joined (l : List ByteArray) (e : Ending) : Prop := ∃ (o : ByteArray) (b : Bool), e = .returned (.tuple #[.string o, .bool b]) ∧ (b = true → o.data.toList = joinB l ∧ o.size ≤ 300)
set_option maxHeartbeats 1000000 in
set_option maxRecDepth 100000 in
theorem joined_any (l : List ByteArray) (A : Option Addr) (c : Nat) (w : World) (hS : Strs w w.heap.size A l) (hn : l.length ≤ 140737488355328) (hs : ∀ s ∈ l, s.size ≤ maxLen) :
    Calls Try.prog 8 #[.slice A l.length c] w fun e w' => w' = w ∧ Joined l e := by
  have HSS := Lib.hid hS
  have HS' := Lib.hid hs
  clear hS hs
  go_enter Try.func8, Try.ntmps8
  go_wp2
  go_loopw [4, 5] (fun v i wr => ∃ (k : Nat) (o : ByteArray), k ≤ l.length ∧ i = .int .i64 k ∧ v = .string o ∧ o.data.toList = joinB (l.take k) ∧ o.size ≤ 300 * k ∧ wr = w) (fun _ i _ => l.length - (intOf i).toNat)
  case atStart => exact ⟨0, _, by omega, rfl, rfl, rfl, by decide, rfl⟩
  case round =>
    obtain ⟨k, o, hk, rfl, rfl, ho, hoz, rfl⟩ := hrel
    by_cases hlt : k < l.length
    · obtain ⟨a, rfl, hab, hcell⟩ := HSS.out (by omega)
      have hc := hcell k l[k] (List.getElem?_eq_getElem hlt)
      have hjt := joinB_take l k hlt
      have hms := HS'.out l[k] (List.getElem_mem hlt)
      obtain ⟨s, hs⟩ : ∃ s, s = l[k] := ⟨_, rfl⟩
      rw [← hs] at hc hjt hms
      have HJT := Lib.hid hjt
      have HO := Lib.hid ho
      unfold maxLen at hms
      clear hs hjt hcell ho
      by_cases h300 : 300 < s.size
      · go_wp2
        go_ret2
        exact ⟨rfl, _, _, rfl, fun h => by cases h⟩
      · go_wp2
        go_roundw
        case rel =>
          refine ⟨k + 1, _, by omega, by go_num, rfl, ?_, ?_, trivial⟩
          · rw [HJT.out, ← HO.out]
            simp
          · have : ∀ a b : ByteArray, (a ++ b).size = a.size + b.size := fun a b => ByteArray.size_append
            rw [this]
            omega
        case measure => simp [intOf]; omega
    · have HO := Lib.hid ho
      have hfin : joinB (l.take k) = joinB l := by rw [List.take_of_length_le (by omega)]
      rw [hfin] at HO
      clear ho hfin
      by_cases h20 : l.length ≤ 20
      · by_cases h300 : o.size ≤ 300
        · go_wp2
          go_ret2
          exact ⟨rfl, _, _, rfl, fun _ => ⟨HO.out, h300⟩⟩
        · go_wp2
          go_ret2
          exact ⟨rfl, _, _, rfl, fun h => by have := of_decide_eq_true h; omega⟩
      · go_wp2
        go_ret2
        exact ⟨rfl, _, _, rfl, fun h => by cases h⟩
end Go.Proofs.Ytjpaajpjajoijaa
