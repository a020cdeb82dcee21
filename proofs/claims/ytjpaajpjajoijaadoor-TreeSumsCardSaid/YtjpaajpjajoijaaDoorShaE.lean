/- sha.begin, New, (*Hash).Add. -/
import Derived.Test.YtjpaajpjajoijaaDoorShaD
import Derived.Test.YtjpaajpjajoijaaDoorWin
namespace Go.Proofs.YtjpaajpjajoijaaDoor
open Go.RowKit Sha
theorem info47_ : (Tryd.prog.info? 99).map (·.size) = some (stA iv).toArray.size := by kernel_rfl
theorem begin_any (w : World) :
    Calls Tryd.prog 88 #[] w fun e w' => e = .returned (.agg (stA iv).toArray) ∧ w.alloc (.cells (stA iv).toArray 99) = w' := by
  go_enter Tryd.func88, Tryd.ntmps88
  go_wp2_with (first | (with_reducible refine wpList_allocR rfl 99 rfl (zs 8) (zero99 _) ?_) | (with_reducible refine wpList_buildR rfl 99 _ rfl (stA iv).toArray (by kernel_rfl) ?_) | (with_reducible refine wpList_storeR rfl 99 (.tmp 0) (.tmp 1) rfl 99 (zs 8) (stA iv).toArray rfl rfl info47_ (by kernel_rfl) (one_stA iv) ?_))
  exact bodyPost_ret (results_cell_row rfl _ _ w.heap.size 99 (stA iv).toArray (0, 0) _ rfl (heap_alloc_last w _) Tryd.underlying99 rfl info47_) rfl ⟨rfl, rfl⟩
/-- The cells of a hash. -/
def hashC (S : St) (v : Value) (n : Nat) : Array Value := (stA S ++ [v, .int .u64 (n : Int)]).toArray
theorem new_any (w : World) :
    Calls Tryd.prog 70 #[] w fun e w' => e = .returned (.pointer (some ⟨w.heap.size + 1, 0, none⟩)) ∧ (w.alloc (.cells (stA iv).toArray 99)).alloc (.cells (hashC iv (.slice none 0 0) 0) 103) = w' := by
  go_enter Tryd.func70, Tryd.ntmps70
  go_wp2_with (first | (go_at_call 88; refine (begin_any _).mono ?_; rintro e w1 ⟨rfl, rfl⟩) | (with_reducible refine wpList_buildR rfl 103 _ rfl (hashC iv (.slice none 0 0) 0) (by kernel_rfl) ?_))
  go_ret
  exact ⟨rfl, rfl⟩
theorem hashC_open (S : St) (v : Value) (n : Nat) : (hashC S v n)[8]? = some v := rfl
theorem hashC_n (S : St) (v : Value) (n : Nat) : (hashC S v n)[9]? = some (.int .u64 (n : Int)) := rfl
theorem hashC_set (S : St) (v v' : Value) (n : Nat) : (hashC S v n).setIfInBounds 8 v' = hashC S v' n := rfl
theorem hashC_setn (S : St) (v : Value) (n n' : Nat) : (hashC S v n).setIfInBounds 9 (.int .u64 (n' : Int)) = hashC S v n' := rfl
theorem info5 : (Tryd.prog.info? 5).map (fun i => (i.zero, i.size, i.bytes)) = some (some (.int .u8 0), 1, 1) := by kernel_rfl
/-- How many bytes are open. -/
def opn (g : Nat) (w : World) : Nat := match w.cell? ⟨g, 8, none⟩ with
  | some (.slice _ n _) => n
  | _ => 0
theorem opn_of {w : World} {g n : Nat} {S : St} {m c : Nat} {A : Option Addr} (h : Blk w g 103 (hashC S (.slice A m c) n)) : opn g w = m := by
  unfold opn
  rw [(h.cell 8).trans (hashC_open _ _ _)]
theorem blocks_succ : ∀ (k : Nat) (l : List UInt8) (S : St), blocks S l (k + 1) = block (blocks S l k) ((l.drop (64 * k)).take 64)
  | 0, _, _ => rfl
  | k + 1, l, S => by
    rw [blocks, blocks_succ k, blocks, List.drop_drop, Nat.mul_add, Nat.mul_one, Nat.add_comm 64]
theorem block_ok (S : St) (b : List UInt8) : St.ok (block S b) := ok_plus _ _
theorem blocks_ok (l : List UInt8) (k : Nat) (S : St) (h : St.ok S) : St.ok (blocks S l k) := by
  cases k with
  | zero => exact h
  | succ k => rw [blocks_succ]; exact ok_plus _ _
set_option maxHeartbeats 1000000 in
set_option maxRecDepth 100000 in
theorem add_any (S : St) (o : List UInt8) (s : ByteArray) (B g n cap : Nat) (A : Option Addr) (w : World) (hok : St.ok S) (hH : Blk w g 103 (hashC S (.slice A o.length cap) n)) (hW : Win w B g A o cap)
    (hB : B ≤ g) (hl : o.length + s.data.toList.length ≤ 140737488355328) :
    Calls Tryd.prog 71 #[.pointer (some ⟨g, 0, none⟩), .string s] w fun e w' => e = .returned (.tuple #[]) ∧ Below B w w' ∧ ∃ (k cap' : Nat) (A' : Option Addr) (r : List UInt8),
      r.length < 64 ∧ 64 * k ≤ (o ++ s.data.toList).length ∧ r = (o ++ s.data.toList).drop (64 * k) ∧ Blk w' g 103 (hashC (blocks S (o ++ s.data.toList) k) (.slice A' r.length cap') ((n + s.data.toList.length) % 18446744073709551616)) ∧ Win w' B g A' r cap' := by
  obtain ⟨i0, hi, hz0, hz1, hz2⟩ := info_parts info5
  have hg := hH.lt

  have c8 := (hH.cell 8).trans (hashC_open _ _ _)
  have c9 := (hH.cell 9).trans (hashC_n _ _ _)
  have hsz : s.size ≤ 9223372036854775807 := by have : s.size = s.data.toList.length := rfl; omega
  obtain ⟨N, hN⟩ : ∃ N, N = (n + s.data.toList.length) % 18446744073709551616 := ⟨_, rfl⟩
  have hnw : IntKind.u64.wrap ((n : Int) + (s.size : Int)) = (N : Int) := by
    rw [hN, show s.data.toList.length = s.size from rfl, IntKind.wrap_u64]
    omega
  have HN := Lib.hid hN
  rw [← hN]
  clear hN
  have f9 := hH.frozen 9
  go_enter Tryd.func71, Tryd.ntmps71
  go_wp2_with (at_builtin; refine wpList_append_win rfl (.tmp 20) (.tmp 21) 81 9 rfl 5 i0 (.int .u8 0) Tryd.underlying81 hi hz0 hz1 hz2 rfl o.length rfl rfl (hW.setCell 9 _) (by simp [World.setCell]; omega) (by simp [World.setCell]; omega) (.string s) rfl (Src.text Tryd.underlying9 s) hl ?_; intro A1 c1 w1 hW1 hK1; have hH1 := hK1.blk (.inr rfl) (hH.set_ 9 _); rw [hashC_setn] at hH1; have f8 := hH1.frozen 8; have c8' := (hH1.cell 8).trans (hashC_open _ _ _))
  have hH2 := hH1.set_ 8 (.slice A1 (o.length + s.size) c1)
  rw [hashC_set] at hH2
  have hW2 := hW1.setCell 8 (.slice A1 (o.length + s.size) c1)
  have hK2 : Below B w (w1.setCell ⟨g, 8, none⟩ (.slice A1 (o.length + s.size) c1)) :=
    (((Below.refl B w).setCell (p := ⟨g, 9, none⟩) hB _).trans (hK1.below (by simp [World.setCell]; omega))).setCell (p := ⟨g, 8, none⟩) hB _
  rw [show o.length + s.size = (o ++ s.data.toList).length from by rw [List.length_append]; rfl] at hH2 hW2 hK2
  clear f8 c8' c8 c9 f9 hH1 hW1 hK1 hnw
  go_loopw [25] (fun _ wr => ∃ (k c : Nat) (A : Option Addr) (r : List UInt8), 64 * k ≤ (o ++ s.data.toList).length ∧ r = (o ++ s.data.toList).drop (64 * k) ∧ Blk wr g 103 (hashC (blocks S (o ++ s.data.toList) k) (.slice A r.length c) N) ∧ Win wr B g A r c ∧ Below B w wr) (fun _ wr => opn g wr)
  case atStart => rw [show o.length + s.size = (o ++ s.data.toList).length from by rw [List.length_append]; rfl]; exact ⟨0, c1, A1, _, by omega, rfl, hH2, hW2, hK2⟩
  case round =>
    clear hH hW
    obtain ⟨k, c, A, r, hk, hr, hH, hW, hBl⟩ := hrel
    have c8 := (hH.cell 8).trans (hashC_open _ _ _)
    have hR := Lib.hid hr
    have HK := Lib.hid hk
    have hrl : r.length ≤ 140737488355328 := by rw [hr, List.length_drop, List.length_append]; omega
    clear hr hk
    by_cases hlt : 64 ≤ r.length
    · obtain ⟨b, off, rfl, hBb, hbg, hbs, hby⟩ := hW.at_ (by omega)
      have hcap := hW.1
      have hmax := hW.2.1
      unfold maxLen at hmax
      have hc64 : (64 : Int) ≤ (c : Int) := by omega
      have hr64 : (64 : Int) ≤ (r.length : Int) := by omega
      go_wp2_with fail
      refine wp_region_quiet_tail 8 (by kernel_rfl) (by kernel_rfl) ?_
      simp only [List.take_succ_cons, List.take_zero, List.drop_succ_cons, List.drop_zero]
      repeat (quiet_step (fail))
      refine wpQuiet_nil ?_
      rintro _ ⟨nq2, rfl⟩
      have HB : BytesAt (wr.drewN nq2) b off (r.take 64) := BytesAt.take hby
      go_wp2_with (go_at_call 89; refine (take_any (blocks S (o ++ s.data.toList) k) (r.take 64) (by rw [List.length_take]; omega) b off c g 103 [.slice (some ⟨b, off, none⟩) r.length c, .int .u64 (N : Int)] _ HB hbg (blocks_ok _ _ _ hok) hH).mono ?_; rintro e w1 ⟨rfl, hH1, hG⟩; replace hH1 : Blk w1 g 103 (hashC (block (blocks S (o ++ s.data.toList) k) (r.take 64)) (.slice (some ⟨b, off, none⟩) r.length c) N) := hH1; have c8' := (hH1.cell 8).trans (hashC_open _ _ _); have f8 := hH1.frozen 8)
      go_roundw
      case rel =>
        have hr := hR.out
        have hk := HK.out
        have hrL : r.length = (o ++ s.data.toList).length - 64 * k := by rw [hr, List.length_drop]
        have hW3 := ((hW.drewN nq2).grown hG).cut (k := 64) hlt
        rw [show (if c = 64 then (some ⟨b, off, none⟩ : Option Addr) else (some ⟨b, off, none⟩ : Option Addr).map (·.add 64)) = if c = 64 then some ⟨b, off, none⟩ else some ⟨b, off + 64, none⟩ from by simp [Addr.add]] at hW3
        have hH3 := hH1.set_ 8 (.slice (if c = 64 then some ⟨b, off, none⟩ else some ⟨b, off + 64, none⟩) (r.length - 64) (c - 64))
        rw [hashC_set] at hH3
        have hd : (r.drop 64).length = r.length - 64 := List.length_drop
        refine ⟨k + 1, c - 64, _, r.drop 64, by omega, by rw [hr, List.drop_drop, Nat.mul_add, Nat.mul_one], ?_, hW3.setCell 8 _, ((below_drewN hBl nq2).grown hG (Nat.le_trans (by omega) hBl.size) (fun j e => by cases e; exact hB)).setCell hB _⟩
        rw [hd, blocks_succ, ← hr]
        exact hH3
      case measure =>
        rw [opn_of hH, opn_of (by have := hH1.set_ 8 (.slice (if c = 64 then some ⟨b, off, none⟩ else some ⟨b, off + 64, none⟩) (r.length - 64) (c - 64)); rw [hashC_set] at this; exact this)]
        omega
    · go_wp2
      go_end0
      have hR' := hR.out
      have hK' := HK.out
      exact ⟨rfl, hBl, k, c, A, r, by omega, hK', hR', hH, hW⟩
end Go.Proofs.YtjpaajpjajoijaaDoor
