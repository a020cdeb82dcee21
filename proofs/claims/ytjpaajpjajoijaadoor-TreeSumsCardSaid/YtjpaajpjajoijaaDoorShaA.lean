/- The leaves of SHA-256: sha.turned, bits.RotateLeft32, bloomeryref02.turn and .word, sha.constants, sha.spread: each returns what the plain functions of YtjpaajpjajoijaaDoorSpec say. -/
import Derived.Test.YtjpaajpjajoijaaDoorProg
import Derived.Test.YtjpaajpjajoijaaDoorKit
import Derived.Deep.QuietTactic
import Derived.BigQuiet
import Derived.Deep.LoopGhost
import Derived.StillTailTactics
import Derived.Laws.CopyOwn
namespace Go.Proofs.YtjpaajpjajoijaaDoor
open Go.RowKit Sha
theorem and31 (n : Nat) (h2 : n ≤ 31) : bits .and .u64 (n : Int) 31 = (n : Int) := by
  have := u64_and_nat n 31 (by omega) (by omega)
  rw [show ((31 : Nat) : Int) = 31 from rfl] at this
  rw [this, nat_mask5]; omega
theorem div_lt (x n : Nat) (hx : x < 4294967296) : x / 2 ^ n < 4294967296 := Nat.lt_of_le_of_lt (Nat.div_le_self _ _) hx
theorem rotr_lt (x n : Nat) (hx : x < 4294967296) : rotr x n < 4294967296 :=
  Nat.or_lt_two_pow (n := 32) (div_lt x n hx) (Nat.mod_lt _ (by omega))
theorem cast_div (x n : Nat) : ((x : Int) / 2 ^ n) = ((x / 2 ^ n : Nat) : Int) := by simp
theorem cast_mul (x n : Nat) : ((x : Int) * 2 ^ n % 4294967296) = ((x * 2 ^ n % 4294967296 : Nat) : Int) := by simp
/-- A word turned right, in the walk's own spelling, either half first. -/
theorem rot_spell (x n : Nat) (hx : x < 4294967296) : bits .or .u32 ((x : Int) / 2 ^ n) ((x : Int) * 2 ^ (32 - n) % 4294967296) = (rotr x n : Int) := by
  rw [cast_div, cast_mul, u32_or_nat _ _ (div_lt x n hx) (Nat.mod_lt _ (by omega))]
  rfl
theorem rot_spell' (x n m : Nat) (hx : x < 4294967296) (h : m = 32 - n) (hn : n ≤ 32) : bits .or .u32 ((x : Int) * 2 ^ m % 4294967296) ((x : Int) / 2 ^ (32 - m)) = (rotr x n : Int) := by
  subst h
  rw [show 32 - (32 - n) = n from by omega, cast_div, cast_mul, u32_or_nat _ _ (Nat.mod_lt _ (by omega)) (div_lt x n hx), Nat.or_comm]
  rfl
theorem ret_u32 {a b : Int} (h : a = b) : Ending.returned (.int .u32 a) = .returned (.int .u32 b) := by rw [h]
set_option maxHeartbeats 400000 in
theorem rotl_any (x n : Nat) (w : World) (hx : x < 4294967296) (h1 : 1 ≤ n) (h2 : n ≤ 31) :
    Calls Tryd.prog 111 #[.int .u32 (x : Int), .int .i64 (n : Int)] w fun e w' => e = .returned (.int .u32 (rotr x (32 - n) : Int)) ∧ w = w' := by
  have hm := and31 n h2
  go_enter Tryd.func111, Tryd.ntmps111
  go_wp2
  go_ret
  exact ⟨ret_u32 (rot_spell' x (32 - n) n hx (by omega) (by omega)), rfl⟩
theorem rotl_int (x : Nat) (n : Int) (w : World) (hx : x < 4294967296) (h1 : 1 ≤ n) (h2 : n ≤ 31) :
    Calls Tryd.prog 111 #[.int .u32 (x : Int), .int .i64 n] w fun e w' => e = .returned (.int .u32 (rotr x (32 - n).toNat : Int)) ∧ w = w' := by
  obtain ⟨k, rfl⟩ := Int.eq_ofNat_of_zero_le (by omega : 0 ≤ n)
  rw [show (32 - (k : Int)).toNat = 32 - k from by omega]
  exact rotl_any x k w hx (by omega) (by omega)
set_option maxHeartbeats 400000 in
/-- sha.turned. -/
theorem turned_any (x : Nat) (n : Int) (w : World) (hx : x < 4294967296) (h1 : 1 ≤ n) (h2 : n ≤ 31) :
    Calls Tryd.prog 104 #[.int .u32 (x : Int), .int .i64 n] w fun e w' => e = .returned (.int .u32 (rotr x n.toNat : Int)) ∧ w = w' := by
  go_enter Tryd.func104, Tryd.ntmps104
  go_wp2_with (go_at_call 111; refine (rotl_int x (32 - n) _ hx (by omega) (by omega)).mono ?_; rintro e w' ⟨rfl, rfl⟩)
  go_ret
  exact ⟨ret_u32 (by rw [show 32 - (32 - n) = n from by omega]), rfl⟩
set_option maxHeartbeats 400000 in
/-- bloomeryref02.turn. -/
theorem turn_any (x : Nat) (n : Int) (w : World) (hx : x < 4294967296) (h1 : 1 ≤ n) (h2 : n ≤ 31) :
    Calls Tryd.prog 94 #[.int .u32 (x : Int), .int .i64 n] w fun e w' => e = .returned (.int .u32 (rotr x n.toNat : Int)) ∧ ∃ k, w' = w.drewN k := by
  obtain ⟨k, rfl⟩ := Int.eq_ofNat_of_zero_le (by omega : 0 ≤ n)
  go_enter Tryd.func94, Tryd.ntmps94
  go_wp2
  go_quiet (fail)
  go_wp2
  go_ret
  exact ⟨ret_u32 (rot_spell x k hx), nq, rfl⟩
theorem word_spell (p q r s : Nat) (hp : p < 256) (hq : q < 256) (hr : r < 256) (hs : s < 256) :
    bits .or .u32 (bits .or .u32 (bits .or .u32 ((p : Int) * 16777216) ((q : Int) * 65536)) ((r : Int) * 256)) (s : Int) = ((((p * 256 + q) * 256 + r) * 256 + s : Nat) : Int) := by
  rw [show ((p : Int) * 16777216) = ((p * 16777216 : Nat) : Int) from by simp, show ((q : Int) * 65536) = ((q * 65536 : Nat) : Int) from by simp, show ((r : Int) * 256) = ((r * 256 : Nat) : Int) from by simp,
    u32_or_nat _ _ (by omega) (by omega), nat_join 24 _ _ (by omega) (by omega), u32_or_nat _ _ (by omega) (by omega), nat_join 16 _ _ (by omega) (by omega), u32_or_nat _ _ (by omega) (by omega), nat_join 8 _ _ (by omega) (by omega)]
  exact congrArg (fun n : Nat => (n : Int)) (by omega)
set_option maxHeartbeats 400000 in
/-- bloomeryref02.word. -/
theorem word_any (p q r s : UInt8) (bk off c : Nat) (w : World) (hB : BytesAt w bk off [p, q, r, s]) :
    Calls Tryd.prog 93 #[.slice (some ⟨bk, off, none⟩) 4 c] w fun e w' => e = .returned (.int .u32 (word p q r s : Int)) ∧ ∃ k, w' = w.drewN k := by
  have h0 := hB 0 (by simp)
  have h1 := hB 1 (by simp)
  have h2 := hB 2 (by simp)
  have h3 := hB 3 (by simp)
  simp only [Nat.add_zero] at h0
  simp at h0 h1 h2 h3
  have b0 := p.toNat_lt
  have b1 := q.toNat_lt
  have b2 := r.toNat_lt
  have b3 := s.toNat_lt
  clear hB
  go_enter Tryd.func93, Tryd.ntmps93
  go_wp2
  go_quiet (fail)
  go_wp2
  go_ret
  exact ⟨ret_u32 (word_spell _ _ _ _ b0 b1 b2 b3), nq, rfl⟩
theorem zero114 (w : World) : (zeroValue 114).run Tryd.prog w = .ok (.agg (zs 64)) w := by kernel_rfl
theorem info114 : (Tryd.prog.info? 114).map (·.size) = some (Us ks).size := by kernel_rfl
theorem info114' : (Tryd.prog.info? 114).map (·.size) = some 64 := by kernel_rfl
theorem zs_ks : (zs 64).size = (Us ks).size := by kernel_rfl
set_option maxHeartbeats 400000 in
set_option maxRecDepth 100000 in
/-- sha.constants. -/
theorem const_any (w : World) :
    Calls Tryd.prog 102 #[] w fun e w' => e = .returned (.agg (Us ks)) ∧ w.alloc (.cells (Us ks) 114) = w' := by
  go_enter Tryd.func102, Tryd.ntmps102
  go_wp2_with (first | (with_reducible refine wpList_allocR rfl 114 rfl (zs 64) (zero114 _) ?_) | (with_reducible refine wpList_buildR rfl 114 _ rfl (Us ks) (by kernel_rfl) ?_) | (with_reducible refine wpList_storeR rfl 114 (.tmp 0) (.tmp 1) rfl 114 (zs 64) (Us ks) rfl rfl info114 zs_ks (one_Us _) ?_))
  exact bodyPost_ret (results_cell_row rfl _ _ w.heap.size 114 (Us ks) (0, 0) _ rfl (heap_alloc_last w _) Tryd.underlying114 rfl info114) rfl ⟨rfl, rfl⟩
/-- The words while a block is spread, k bytes having been read. -/
def wst (b : List UInt8) : Nat → List Nat
  | 0 => List.replicate 64 0
  | k + 1 => (wst b k).set (k / 4) (((wst b k).getD (k / 4) 0 * 256 + (b.getD k 0).toNat) % 4294967296)
theorem wst_length (b : List UInt8) (k : Nat) : (wst b k).length = 64 := by
  induction k with
  | zero => simp [wst]
  | succ k ih => simp [wst, ih]
theorem words_length (b : List UInt8) (n : Nat) : (words b n).length = n := by
  induction n with
  | zero => rfl
  | succ n ih => simp [words, ih]
theorem set_mid (l r : List Nat) (n x y : Nat) (h : l.length = n) : (l ++ x :: r).set n y = l ++ y :: r := by
  subst h; simp
theorem get_mid (l r : List Nat) (n x : Nat) (h : l.length = n) : (l ++ x :: r).getD n 0 = x := by
  subst h; simp
theorem wst_words (b : List UInt8) (n : Nat) (h : n ≤ 16) : wst b (4 * n) = words b n ++ List.replicate (64 - n) 0 := by
  induction n with
  | zero => simp [wst, words]
  | succ n ih =>
    have ih := ih (by omega)
    have hl := words_length b n
    have hr : List.replicate (64 - n) 0 = (0 : Nat) :: List.replicate (64 - (n + 1)) 0 := by
      rw [show 64 - n = (64 - (n + 1)) + 1 from by omega, List.replicate_succ]
    rw [show 4 * (n + 1) = 4 * n + 1 + 1 + 1 + 1 from by omega]
    simp only [wst]
    rw [ih, hr, show (4 * n + 1 + 1 + 1) / 4 = n from by omega, show (4 * n + 1 + 1) / 4 = n from by omega, show (4 * n + 1) / 4 = n from by omega, show (4 * n) / 4 = n from by omega]
    simp only [set_mid _ _ n _ _ hl, get_mid _ _ n _ hl]
    simp only [words, List.append_assoc, List.singleton_append]
    congr 2
    have h0 := UInt8.toNat_lt (b.getD (4 * n) 0)
    have h1 := UInt8.toNat_lt (b.getD (4 * n + 1) 0)
    have h2 := UInt8.toNat_lt (b.getD (4 * n + 2) 0)
    have h3 := UInt8.toNat_lt (b.getD (4 * n + 3) 0)
    unfold word
    omega
theorem sch_length (l : List Nat) (n : Nat) : (sch l n).length = l.length + n := by
  induction n with
  | zero => rfl
  | succ n ih => simp [sch, ih]; omega
/-- The words while they are spread on, i of them being there. -/
def wsx (b : List UInt8) (i : Nat) : List Nat := sch (words b 16) (i - 16) ++ List.replicate (64 - i) 0
theorem wsx_length (b : List UInt8) (i : Nat) (h : 16 ≤ i) (h' : i ≤ 64) : (wsx b i).length = 64 := by
  simp [wsx, sch_length, words_length]; omega
theorem add_lt (x y : Nat) : add x y < 4294967296 := Nat.mod_lt _ (by omega)
theorem word_lt (p q r s : UInt8) : word p q r s < 4294967296 := by
  have h0 := p.toNat_lt
  have h1 := q.toNat_lt
  have h2 := r.toNat_lt
  have h3 := s.toNat_lt
  unfold word
  omega
theorem getD_lt (l : List Nat) (h : ∀ x ∈ l, x < 4294967296) (i : Nat) : l.getD i 0 < 4294967296 := by
  rw [List.getD]
  cases hx : l[i]? with
  | none => simp
  | some x => exact h x (List.mem_of_getElem? hx)
theorem words_lt (b : List UInt8) (n : Nat) : ∀ x ∈ words b n, x < 4294967296 := by
  induction n with
  | zero => simp [words]
  | succ n ih =>
    intro x hx
    simp only [words, List.mem_append, List.mem_singleton] at hx
    rcases hx with hx | rfl
    · exact ih x hx
    · exact word_lt _ _ _ _
theorem sch_lt (l : List Nat) (h : ∀ x ∈ l, x < 4294967296) (n : Nat) : ∀ x ∈ sch l n, x < 4294967296 := by
  induction n with
  | zero => simpa [sch] using h
  | succ n ih =>
    intro x hx
    simp only [sch, List.mem_append, List.mem_singleton] at hx
    rcases hx with hx | rfl
    · exact ih x hx
    · exact add_lt _ _
theorem wsx_lt (b : List UInt8) (i j : Nat) : (wsx b i).getD j 0 < 4294967296 := by
  refine getD_lt _ (fun x hx => ?_) j
  simp only [wsx, List.mem_append, List.mem_replicate] at hx
  rcases hx with hx | ⟨_, rfl⟩
  · exact sch_lt _ (words_lt b 16) _ x hx
  · omega
theorem low0_spell (x : Nat) (hx : x < 4294967296) : bits .xor .u32 (bits .xor .u32 (rotr x 7 : Int) (rotr x 18 : Int)) ((x : Int) / 8) = (low0 x : Int) := by
  rw [show ((x : Int) / 8) = ((x / 8 : Nat) : Int) from by simp, u32_xor_nat _ _ (rotr_lt x 7 hx) (rotr_lt x 18 hx), u32_xor_nat _ _ (Nat.xor_lt_two_pow (n := 32) (rotr_lt x 7 hx) (rotr_lt x 18 hx)) (by omega)]
  rfl
theorem low1_spell (x : Nat) (hx : x < 4294967296) : bits .xor .u32 (bits .xor .u32 (rotr x 17 : Int) (rotr x 19 : Int)) ((x : Int) / 1024) = (low1 x : Int) := by
  rw [show ((x : Int) / 1024) = ((x / 1024 : Nat) : Int) from by simp, u32_xor_nat _ _ (rotr_lt x 17 hx) (rotr_lt x 19 hx), u32_xor_nat _ _ (Nat.xor_lt_two_pow (n := 32) (rotr_lt x 17 hx) (rotr_lt x 19 hx)) (by omega)]
  rfl
theorem add_spell (x y : Nat) : ((x : Int) + (y : Int)) % 4294967296 = (add x y : Int) := by simp [add]
theorem wsx_succ (b : List UInt8) (i : Nat) (h : 16 ≤ i) (h' : i < 64) :
    wsx b (i + 1) = (wsx b i).set i (add (add (add ((wsx b i).getD (i - 16) 0) (low0 ((wsx b i).getD (i - 15) 0))) ((wsx b i).getD (i - 7) 0)) (low1 ((wsx b i).getD (i - 2) 0))) := by
  have hl : (sch (words b 16) (i - 16)).length = i := by rw [sch_length, words_length]; omega
  have hg : ∀ j, j < i → (wsx b i).getD j 0 = (sch (words b 16) (i - 16)).getD j 0 := fun j hj => by
    simp only [wsx, List.getD]
    rw [List.getElem?_append_left (by omega)]
  rw [hg _ (by omega), hg _ (by omega), hg _ (by omega), hg _ (by omega)]
  unfold wsx
  rw [show i + 1 - 16 = (i - 16) + 1 from by omega, show 64 - i = (64 - (i + 1)) + 1 from by omega, List.replicate_succ, set_mid _ _ _ _ _ hl]
  simp only [sch, List.append_assoc, List.singleton_append]
  unfold nextw
  rw [hl]
set_option maxHeartbeats 400000 in
set_option maxRecDepth 100000 in
theorem spread_any (b : List UInt8) (hb : b.length = 64) (bk off c : Nat) (w : World) (hB : BytesAt w bk off b) :
    Calls Tryd.prog 103 #[.slice (some ⟨bk, off, none⟩) 64 c] w fun e w' => e = .returned (.agg (Us (sched b))) ∧ Below w.heap.size w w' := by
  have hlt := hB.lt (by omega)
  go_enter Tryd.func103, Tryd.ntmps103
  go_wp2_with (first | (with_reducible refine wpList_allocR rfl 114 rfl (zs 64) (zero114 _) ?_))
  go_loopw [13] (fun v wr => ∃ k : Nat, k ≤ 64 ∧ v = .int .i64 k ∧ Blk wr (w.heap.size + 1) 114 (Us (wst b k)) ∧ Blk wr w.heap.size 114 (zs 64) ∧ Below w.heap.size w wr) (fun v _ => 64 - (intOf v).toNat)
  case atStart =>
    refine ⟨0, by omega, rfl, ?_, (Blk.new w 114 (zs 64)).alloc _, ((Below.refl _ _).alloc (Nat.le_refl _) _).alloc (by simp) _⟩
    have := Blk.new (w.alloc (.cells (zs 64) 114)) 114 (zs 64)
    rwa [World.size_alloc] at this
  case round =>
    obtain ⟨k, hk, rfl, hW, hR, hBl⟩ := hrel
    have hf := hW.frozen (k / 4)
    by_cases hk4 : k < 64
    · have hc := (hB.below hBl hlt) k (by omega)
      have hw := (hW.cell _).trans (get_Us _ _ (by rw [wst_length]; omega : k / 4 < _))
      have hy0 : (b.getD k 0).toNat < 256 := UInt8.toNat_lt _
      obtain ⟨x, hx⟩ : ∃ x, x = (wst b k).getD (k / 4) 0 := ⟨_, rfl⟩
      obtain ⟨y, hy⟩ : ∃ y, y = (b.getD k 0).toNat := ⟨_, rfl⟩
      rw [← hx] at hw
      rw [← hy] at hc hy0
      have HX := Lib.hid hx
      have HY := Lib.hid hy
      clear hx hy
      go_wp2
      go_roundw
      case rel =>
        refine ⟨k + 1, by omega, by go_num, ?_, hR.far (by simp) _, hBl.setCell (by simp) _⟩
        have e : bits BinOp.or IntKind.u32 (↑x * 256 % 4294967296) (↑y : Int) = (((x * 256 + y) % 4294967296 : Nat) : Int) := by
          rw [← or_join x y hy0]; simp
        have h1 := hW.set_ (k / 4) (.int .u32 (((x * 256 + y) % 4294967296 : Nat) : Int))
        rw [set_Us, HX.out, HY.out] at h1
        rw [e, HX.out, HY.out]
        exact h1
      case measure => simp [intOf]; omega
    · have hge : 64 ≤ k := by omega
      rw [show wst b k = wsx b 16 from by rw [show k = 4 * 16 from by omega, wst_words b 16 (by omega)]; rfl] at hW
      go_wp2_with fail
      go_loopw [6] (fun v wx => ∃ i : Nat, 16 ≤ i ∧ i ≤ 64 ∧ v = .int .i64 i ∧ Blk wx (w.heap.size + 1) 114 (Us (wsx b i)) ∧ Blk wx w.heap.size 114 (zs 64) ∧ Below w.heap.size w wx) (fun v _ => 64 - (intOf v).toNat)
      case atStart => exact ⟨16, by omega, by omega, rfl, hW, hR, hBl⟩
      case round =>
        clear hf hW hBl hR
        obtain ⟨i, hi, hi', rfl, hW, hR, hBl⟩ := hrel
        by_cases hlt : i < 64
        · have r15 := (hW.cell (i - 15)).trans (get_Us _ _ (by rw [wsx_length _ _ hi hi']; omega))
          have r2 := (hW.cell (i - 2)).trans (get_Us _ _ (by rw [wsx_length _ _ hi hi']; omega))
          have r16 := (hW.cell (i - 16)).trans (get_Us _ _ (by rw [wsx_length _ _ hi hi']; omega))
          have r7 := (hW.cell (i - 7)).trans (get_Us _ _ (by rw [wsx_length _ _ hi hi']; omega))
          have r0 := (hW.cell i).trans (get_Us _ _ (by rw [wsx_length _ _ hi hi']; omega))
          have f0 := hW.frozen i
          obtain ⟨x15, e15⟩ : ∃ x, x = (wsx b i).getD (i - 15) 0 := ⟨_, rfl⟩
          obtain ⟨x2, e2⟩ : ∃ x, x = (wsx b i).getD (i - 2) 0 := ⟨_, rfl⟩
          obtain ⟨x16, e16⟩ : ∃ x, x = (wsx b i).getD (i - 16) 0 := ⟨_, rfl⟩
          obtain ⟨x7, e7⟩ : ∃ x, x = (wsx b i).getD (i - 7) 0 := ⟨_, rfl⟩
          obtain ⟨x0, e0⟩ : ∃ x, x = (wsx b i).getD i 0 := ⟨_, rfl⟩
          rw [← e15] at r15
          rw [← e2] at r2
          rw [← e16] at r16
          rw [← e7] at r7
          rw [← e0] at r0
          have b15 : x15 < 4294967296 := by rw [e15]; exact wsx_lt b i _
          have b2 : x2 < 4294967296 := by rw [e2]; exact wsx_lt b i _
          have H15 := Lib.hid e15
          have H2 := Lib.hid e2
          have H16 := Lib.hid e16
          have H7 := Lib.hid e7
          clear e15 e2 e16 e7 e0
          have l0 := low0_spell x15 b15
          have l1 := low1_spell x2 b2
          have a1 := add_spell x16 (low0 x15)
          have a2 := add_spell (add x16 (low0 x15)) x7
          have a3 := add_spell (add (add x16 (low0 x15)) x7) (low1 x2)
          go_wp2_with fail
          go_quiet (fail)
          go_wp2_with (go_at_call 104; refine (turned_any _ _ _ (by assumption) (by omega) (by omega)).mono ?_; rintro e w' ⟨rfl, rfl⟩)
          go_region
          all_goals go_wp2
          go_roundw
          case rel =>
            refine ⟨i + 1, by omega, by omega, by go_num, ?_, hR.far (by simp) _, (below_drewN hBl _).setCell (by simp) _⟩
            have h1 := hW.set_ i (.int .u32 (add (add (add x16 (low0 x15)) x7) (low1 x2) : Int))
            rw [set_Us] at h1
            rw [wsx_succ b i hi hlt, ← H16.out, ← H15.out, ← H7.out, ← H2.out]
            exact h1.drewN _
          case measure => simp [intOf]; omega
        · have e64 : i = 64 := by omega
          have hs : wsx b i = sched b := by rw [e64]; simp [wsx, sched]
          have HS := Lib.hid hs
          clear hs e64
          have hi64 : (Tryd.prog.info? 114).map (·.size) = some (Us (wsx b i)).size := by rw [size_Us, wsx_length b i hi hi']; exact info114'
          have hz : (zs 64).size = (Us (wsx b i)).size := by rw [size_Us, wsx_length b i hi hi']; rfl
          have HI := Lib.hid hi64
          have HZ := Lib.hid hz
          clear hi64 hz
          go_wp2_with (first | (with_reducible refine wpList_load_row rfl 114 (.tmp 3) rfl (w.heap.size + 1) rfl 114 (Us (wsx b i)) (0, 0) _ hW.heap Tryd.underlying114 rfl HI.out ?_) | (with_reducible refine wpList_store_row rfl 114 (.tmp 2) (.tmp 73) rfl w.heap.size (Us (wsx b i)) rfl rfl 114 (zs 64) hR.heap HI.out HZ.out (one_Us _) ?_))
          exact bodyPost_ret (results_cell_row rfl _ _ w.heap.size 114 (Us (wsx b i)) (0, 0) _ rfl (setRow_heap _ _ _ _ _ _ hR) Tryd.underlying114 rfl HI.out) rfl ⟨by rw [HS.out], below_setRow hBl (Nat.le_refl _) _⟩
end Go.Proofs.YtjpaajpjajoijaaDoor
