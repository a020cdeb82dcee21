/- Hashes by what they were told: New, Add and Sum in one word each; sha.Sum. -/
import Derived.Test.YtjpaajpjajoijaaDoorShaF
namespace Go.Proofs.YtjpaajpjajoijaaDoor
open Go.RowKit Sha
theorem blocks_add : ∀ (q k : Nat) (l : List UInt8) (S : St), blocks S l (q + k) = blocks (blocks S l q) (l.drop (64 * q)) k
  | 0, k, l, S => by simp [blocks]
  | q + 1, k, l, S => by
    rw [show q + 1 + k = (q + k) + 1 from by omega, blocks, blocks_add q k, blocks, List.drop_drop, Nat.mul_add, Nat.mul_one, Nat.add_comm 64]
theorem blocks_front : ∀ (q : Nat) (l x : List UInt8) (S : St), 64 * q ≤ l.length → blocks S (l ++ x) q = blocks S l q
  | 0, _, _, _, _ => rfl
  | q + 1, l, x, S, h => by
    rw [blocks, blocks, List.take_append_of_le_length (by omega), List.drop_append_of_le_length (by omega), blocks_front q _ _ _ (by rw [List.length_drop]; omega)]
theorem blocks_two (S : St) (m x : List UInt8) (q k : Nat) (h : 64 * q ≤ m.length) : blocks (blocks S m q) (m.drop (64 * q) ++ x) k = blocks S (m ++ x) (q + k) := by
  rw [blocks_add, blocks_front q m x S h, List.drop_append_of_le_length h]
theorem tail_length (n : Nat) : (n + (tail n).length) % 64 = 0 := by
  simp [tail, fill, len8]
  omega
theorem tail_mod (n : Nat) (h : n ≤ 140737488355328) : tail (n % 18446744073709551616) = tail n := by
  rw [Nat.mod_eq_of_lt (by omega)]
theorem final_of (m : List UInt8) : blocks (blocks iv m (m.length / 64)) (m.drop (64 * (m.length / 64)) ++ tail m.length) ((m.drop (64 * (m.length / 64)) ++ tail m.length).length / 64) = final m := by
  rw [blocks_two _ _ _ _ _ (by omega), final, pad]
  congr 1
  have := tail_length m.length
  simp only [List.length_append, List.length_drop]
  omega
/-- A hash at block g that was told m; its rows lie from block B on. -/
def HashAt (w : World) (B g : Nat) (m : List UInt8) : Prop :=
  B ≤ g ∧ ∃ (c : Nat) (A : Option Addr), Blk w g 103 (hashC (blocks iv m (m.length / 64)) (.slice A (m.drop (64 * (m.length / 64))).length c) m.length) ∧ Win w B g A (m.drop (64 * (m.length / 64))) c
theorem HashAt.below {w w' : World} {B C g : Nat} {m : List UInt8} (h : HashAt w B g m) (hb : Below C w w') (hC : w.heap.size ≤ C) : HashAt w' B g m := by
  obtain ⟨hB, c, A, h1, h2⟩ := h
  exact ⟨hB, c, A, h1.below hb (by have := h1.lt; omega), h2.below hb hC⟩
theorem HashAt.drewN {w : World} {B g : Nat} {m : List UInt8} (h : HashAt w B g m) (n : Nat) : HashAt (w.drewN n) B g m := h
theorem HashAt.lt {w : World} {B g : Nat} {m : List UInt8} (h : HashAt w B g m) : g < w.heap.size := h.2.elim fun _ h => h.elim fun _ h => h.1.lt
theorem HashAt.new {w : World} : HashAt ((w.alloc (.cells (stA iv).toArray 99)).alloc (.cells (hashC iv (.slice none 0 0) 0) 103)) w.heap.size (w.heap.size + 1) [] := by
  have h := Blk.new (w.alloc (.cells (stA iv).toArray 99)) 103 (hashC iv (.slice none 0 0) 0)
  rw [World.size_alloc] at h
  exact ⟨by omega, 0, none, h, Win.nil⟩
theorem new_hash (w : World) :
    Calls Tryd.prog 70 #[] w fun e w' => e = .returned (.pointer (some ⟨w.heap.size + 1, 0, none⟩)) ∧ HashAt w' w.heap.size (w.heap.size + 1) [] ∧ Below w.heap.size w w' :=
  (new_any w).mono fun _ _ ⟨he, hw⟩ => ⟨he, by rw [← hw]; exact HashAt.new, by rw [← hw]; exact ((Below.refl _ _).alloc (Nat.le_refl _) _).alloc (by simp) _⟩
theorem add_hash (m : List UInt8) (s : ByteArray) (B g : Nat) (w : World) (h : HashAt w B g m) (hl : m.length + s.data.toList.length ≤ 140737488355328) :
    Calls Tryd.prog 71 #[.pointer (some ⟨g, 0, none⟩), .string s] w fun e w' => e = .returned (.tuple #[]) ∧ HashAt w' B g (m ++ s.data.toList) ∧ Below B w w' := by
  obtain ⟨hB, c, A, h1, h2⟩ := h
  refine (add_any (blocks iv m (m.length / 64)) (m.drop (64 * (m.length / 64))) s B g m.length c A w (blocks_ok _ _ _ ok_iv) h1 h2 hB (by rw [List.length_drop]; omega)).mono ?_
  rintro e w' ⟨he, hb, k, c', A', r, hr, hk, hrd, h3, h4⟩
  refine ⟨he, ⟨hB, c', A', ?_⟩, hb⟩
  have hlen : (m ++ s.data.toList).length = m.length + s.data.toList.length := List.length_append
  have hF : (m.drop (64 * (m.length / 64)) ++ s.data.toList).length = m.length - 64 * (m.length / 64) + s.data.toList.length := by rw [List.length_append, List.length_drop]
  have hrl : r.length = m.length - 64 * (m.length / 64) + s.data.toList.length - 64 * k := by rw [hrd, List.length_drop, hF]
  have hq : (m ++ s.data.toList).length / 64 = m.length / 64 + k := by rw [hlen]; omega
  have hdrop : (m ++ s.data.toList).drop (64 * (m.length / 64 + k)) = r := by
    rw [hrd, Nat.mul_add, ← List.drop_drop, List.drop_append_of_le_length (by omega)]
  rw [hq, hdrop, ← blocks_two iv m s.data.toList _ _ (by omega)]
  rw [Nat.mod_eq_of_lt (by omega)] at h3
  rw [hlen]
  exact ⟨h3, h4⟩
/-- The digest as a value. -/
def D8 (m : List UInt8) : Value := .agg (dgs (final m) 32)
theorem sum_hash (m : List UInt8) (B g : Nat) (w : World) (h : HashAt w B g m) (hl : m.length ≤ 140737488355328) :
    Calls Tryd.prog 72 #[.pointer (some ⟨g, 0, none⟩)] w fun e w' => e = .returned (D8 m) ∧ Below w.heap.size w w' := by
  obtain ⟨hB, c, A, h1, h2⟩ := h
  refine (hsum_any (blocks iv m (m.length / 64)) (m.drop (64 * (m.length / 64))) B g m.length c A w (blocks_ok _ _ _ ok_iv) h1 h2 hl (by rw [List.length_drop]; omega)).mono ?_
  rintro e w' ⟨hb, he⟩
  exact ⟨by rw [he, final_of]; rfl, hb⟩
theorem add_nil (s : ByteArray) (w : World) : Calls Tryd.prog 71 #[.pointer none, .string s] w fun e w' => e = .returned (.tuple #[]) ∧ w = w' := by
  go_enter Tryd.func71, Tryd.ntmps71
  go_wp2
  exact bodyPost_ret (results_none rfl _ _ _) rfl ⟨rfl, rfl⟩
theorem D8_shape (m : List UInt8) : ∃ D : Array Value, D8 m = .agg D ∧ D.size = 32 ∧ D.all (·.oneCell') = true ∧ (Tryd.prog.info? 39).map (·.size) = some D.size := ⟨_, rfl, dgs_size _ _, one_dgs _ _, info39 _ _⟩
set_option maxRecDepth 100000 in
theorem sum_nil (w : World) :
    Calls Tryd.prog 72 #[.pointer none] w fun e w' => e = .returned (D8 []) ∧ Below w.heap.size w w' := by
  obtain ⟨D, hD, hs, h1c, hi⟩ := D8_shape []
  have HZL : Hid ((zb 32).size = D.size) := Lib.hid (by rw [hs]; rfl)
  have HD := Lib.hid hD
  have HI := Lib.hid hi
  have HC := Lib.hid h1c
  have hsum : ∀ (B g : Nat) (w : World), HashAt w B g [] → Calls Tryd.prog 72 #[.pointer (some ⟨g, 0, none⟩)] w fun e w' => e = .returned (.agg D) ∧ Below w.heap.size w w' := fun B g w h => by
    rw [← hD]; exact sum_hash [] B g w h (by simp)
  have HS' := Lib.hid hsum
  rw [hD]
  clear hsum hD hs h1c hi
  have hB0 : Below w.heap.size w (w.alloc (.cells (zb 32) 39)) := (Below.refl _ _).alloc (Nat.le_refl _) _
  have hR0 := Blk.new w 39 (zb 32)
  go_enter Tryd.func72, Tryd.ntmps72
  go_wp2_with (first | (with_reducible refine wpList_allocR rfl 39 rfl (zb 32) (zero39 _) ?_) | (go_at_call 70; refine (new_hash _).mono ?_; rintro e w1 ⟨rfl, h1, b1⟩; rw [World.size_alloc] at h1) | (go_at_call 72; refine (HS'.out _ _ _ h1).mono ?_; rintro e w2 ⟨rfl, b2⟩; have hR := (hR0.below b1 (by simp)).below b2 (by have := b1.size; simp at this; omega)) | (with_reducible refine wpList_store_row rfl 39 (.tmp 2) (.tmp 11) rfl w.heap.size D rfl rfl 39 (zb 32) hR.heap HI.out HZL.out HC.out ?_))
  exact bodyPost_ret (results_cell_row rfl _ _ w.heap.size 39 D (0, 0) _ rfl (setRow_heap _ _ _ _ _ _ hR) Tryd.underlying39 rfl HI.out) rfl ⟨rfl, below_setRow ((hB0.trans (b1.mono (by simp))).trans (b2.mono (by have := b1.size; simp at this; omega))) (Nat.le_refl _) _⟩
end Go.Proofs.YtjpaajpjajoijaaDoor
