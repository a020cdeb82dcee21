/- (*Hash).Sum. -/
import Derived.Test.YtjpaajpjajoijaaDoorShaE
import Derived.Test.YtjpaajpjajoijaaDoorConv
namespace Go.Proofs.YtjpaajpjajoijaaDoor
open Go.RowKit Sha
def zb (n : Nat) : Array Value := (List.replicate n (Value.int .u8 0)).toArray
theorem zero39 (w : World) : (zeroValue 39).run Tryd.prog w = .ok (.agg (zb 32)) w := by kernel_rfl
theorem agg5 : Tryd.prog.underlying 5 = some (.int .u8) := by kernel_rfl
theorem info47n : (Tryd.prog.info? 99).map (·.size) = some 8 := by kernel_rfl
/-- What stands while a sum is taken: the copy of the words, the result's place, all that was there before. -/
structure HS (w wr : World) (S : St) : Prop where
  st : Blk wr (w.heap.size + 1) 99 (stA S).toArray
  rs : Blk wr w.heap.size 39 (zb 32)
  bl : Below w.heap.size w wr
  sz : w.heap.size + 2 ≤ wr.heap.size
theorem HS.alloc {w wr : World} {S : St} (h : HS w wr S) (o : Obj) : HS w (wr.alloc o) S :=
  ⟨h.st.alloc _, h.rs.alloc _, h.bl.alloc (by have := h.sz; omega) _, by have := h.sz; simp; omega⟩
theorem HS.kept {w wr wr' : World} {S : St} {g : Nat} (h : HS w wr S) (hk : Kept wr wr' (w.heap.size + 2) g) : HS w wr' S :=
  ⟨hk.blk (.inl (by omega)) h.st, hk.blk (.inl (by omega)) h.rs, h.bl.trans ((hk.below h.sz).mono (by omega)), Nat.le_trans h.sz hk.size⟩
def lenV (v : Value) : Nat := match v with
  | .slice _ n _ => n
  | _ => 0
theorem ret_slice {A : Option Addr} {n m c : Nat} (h : n = m) : Value.slice A n c = .slice A m c := by rw [h]
theorem len8_take (n j : Nat) (h : j < 8) : (len8 n).take (j + 1) = (len8 n).take j ++ [UInt8.ofNat (8 * n / 2 ^ (56 - 8 * j) % 256)] := by
  rw [List.take_succ_eq_append_getElem (by simp [len8]; exact h)]
  congr 2
  simp [len8]
theorem len8_byte (n j : Nat) : (8 * (n : Int) / 2 ^ (56 - 8 * j) % 256) = ((UInt8.ofNat (8 * n / 2 ^ (56 - 8 * j) % 256)).toNat : Int) := by
  rw [show (UInt8.ofNat (8 * n / 2 ^ (56 - 8 * j) % 256)).toNat = 8 * n / 2 ^ (56 - 8 * j) % 256 from by
    rw [UInt8.toNat_ofNat_of_lt']; exact Nat.mod_lt _ (by decide)]
  rw [Int.natCast_emod, Int.natCast_ediv, Int.natCast_mul, Int.natCast_pow]
  rfl
theorem HS.taken {w wr wr' : World} {S T : St} (h : HS w wr S) (hb : Blk wr' (w.heap.size + 1) 99 (stA T ++ []).toArray) (hg : wr.grownBy wr' (some (w.heap.size + 1))) : HS w wr' T :=
  ⟨by rw [List.append_nil] at hb; exact hb, h.rs.grown hg (by simp), h.bl.grown hg (by have := h.sz; omega) (fun j e => by cases e; omega), Nat.le_trans h.sz hg.size⟩
/-- The digest's bytes while they are written, i of them being there. -/
def dgs (S : St) (i : Nat) : Array Value := ((List.range 32).map fun j => Value.int .u8 (((if j < i then dig S j else 0 : Nat)) : Int)).toArray
theorem dgs_zero (S : St) : dgs S 0 = zb 32 := by
  have : ∀ n : Nat, ((List.range n).map fun j => Value.int .u8 (((if j < 0 then dig S j else 0 : Nat)) : Int)) = List.replicate n (Value.int .u8 0) := by
    intro n
    rw [List.eq_replicate_iff]
    exact ⟨by simp, fun b hb => by obtain ⟨j, _, rfl⟩ := List.mem_map.1 hb; rfl⟩
  exact congrArg List.toArray (this 32)
theorem dgs_at (S : St) (i : Nat) (h : i < 32) : (dgs S i)[i]? = some (.int .u8 0) := by
  unfold dgs
  rw [List.getElem?_toArray, List.getElem?_map, List.getElem?_range h]
  simp
theorem one_dgs (S : St) (i : Nat) : (dgs S i).all (·.oneCell') = true := by
  simp [dgs, Value.oneCell']
theorem dgs_set (S : St) (i : Nat) : (dgs S i).setIfInBounds i (.int .u8 (dig S i : Int)) = dgs S (i + 1) := by
  unfold dgs
  rw [List.setIfInBounds_toArray]
  congr 1
  apply List.ext_getElem (by simp)
  intro j h1 h2
  simp at h2
  rw [List.getElem_set]
  by_cases e : i = j
  · subst e; simp
  · simp [e, show (j < i + 1 ↔ j < i) from by omega]
theorem dgs_size (S : St) (i : Nat) : (dgs S i).size = 32 := by simp [dgs]
theorem info39 (S : St) (i : Nat) : (Tryd.prog.info? 39).map (·.size) = some (dgs S i).size := by
  rw [dgs_size]; kernel_rfl
theorem HS.setCell {w wr : World} {S : St} (h : HS w wr S) {D o : Nat} (hD : w.heap.size + 2 ≤ D) (u : Value) : HS w (wr.setCell ⟨D, o, none⟩ u) S :=
  ⟨h.st.far (by simp; omega) u, h.rs.far (by simp; omega) u, h.bl.setCell (p := ⟨D, o, none⟩) (by simp; omega) u, by have := h.sz; simp [World.setCell]; exact this⟩
theorem dig_spell (S : St) (i : Nat) (x : Nat) (hx : x = S.toList.getD (i / 4) 0) : ((x : Int) / 2 ^ (24 - 8 * (i % 4)) % 256) = (dig S i : Int) := by
  rw [dig, ← hx, Int.natCast_emod, Int.natCast_ediv, Int.natCast_pow]
  rfl
set_option maxHeartbeats 1000000 in
set_option maxRecDepth 100000 in
theorem hsum_any (S : St) (o : List UInt8) (B0 g n cap : Nat) (A : Option Addr) (w : World) (hok : St.ok S) (hH : Blk w g 103 (hashC S (.slice A o.length cap) n)) (hW : Win w B0 g A o cap)
    (hl : n ≤ 140737488355328) (hol : o.length = n % 64) :
    Calls Tryd.prog 72 #[.pointer (some ⟨g, 0, none⟩)] w fun e w' => Below w.heap.size w w' ∧ e = .returned (.agg (dgs (blocks S (o ++ tail n) ((o ++ tail n).length / 64)) 32)) := by
  obtain ⟨i0, hi, hz0, hz1, hz2⟩ := info_parts info5
  have hg := hH.lt
  have c8 := (hH.cell 8).trans (hashC_open _ _ _)
  have c9 := (hH.cell 9).trans (hashC_n _ _ _)
  have d0 := hH.cell 0
  have d1 := hH.cell 1
  have d2 := hH.cell 2
  have d3 := hH.cell 3
  have d4 := hH.cell 4
  have d5 := hH.cell 5
  have d6 := hH.cell 6
  have d7 := hH.cell 7
  simp [hashC, stA, U] at d0 d1 d2 d3 d4 d5 d6 d7
  have hol2 : o.length < 64 := by omega
  have hwin : 0 < o.length → ∃ b off, A = some ⟨b, off, none⟩ ∧ BytesAt w b off o := fun h => by
    obtain ⟨b, off, h1, _, _, _, h5⟩ := hW.at_ h
    exact ⟨b, off, h1, h5⟩
  have HOL := Lib.hid hol
  clear hol
  go_enter Tryd.func72, Tryd.ntmps72
  have hR1 : Blk ((w.alloc (.cells (zb 32) 39)).alloc (.cells (stA S).toArray 99)) w.heap.size 39 (zb 32) := (Blk.new w 39 (zb 32)).alloc _
  have hS1 : Blk ((w.alloc (.cells (zb 32) 39)).alloc (.cells (stA S).toArray 99)) (w.heap.size + 1) 99 (stA S).toArray := by
    have := Blk.new (w.alloc (.cells (zb 32) 39)) 99 (stA S).toArray
    rwa [World.size_alloc] at this
  have hB1 : Below w.heap.size w ((w.alloc (.cells (zb 32) 39)).alloc (.cells (stA S).toArray 99)) := (((Below.refl _ _).alloc (Nat.le_refl _) _).alloc (by simp) _)
  have ho1 : 0 < o.length → ∃ b off, A = some ⟨b, off, none⟩ ∧ BytesAt ((w.alloc (.cells (zb 32) 39)).alloc (.cells (stA S).toArray 99)) b off o := fun h => by
    obtain ⟨b, off, h1, _, _, h4, h5⟩ := hW.at_ h
    exact ⟨b, off, h1, h5.below hB1 h4⟩
  have hc81 : ((w.alloc (.cells (zb 32) 39)).alloc (.cells (stA S).toArray 99)).cell? ⟨g, 8, none⟩ = some (.slice A o.length cap) := (hB1.cell (p := ⟨g, 8, none⟩) hg).trans c8
  have hs64 : (⟨o.toArray⟩ : ByteArray).size ≤ maxLen := by unfold maxLen; show o.length ≤ _; omega
  go_wp2_with (first
    | (with_reducible refine wpList_allocR rfl 39 rfl (zb 32) (zero39 _) ?_)
    | (with_reducible refine wpList_allocR rfl 99 rfl (zs 8) (zero99 _) ?_)
    | (with_reducible refine wpList_storeR rfl 99 (.tmp 3) (.tmp 15) rfl 99 (zs 8) (stA S).toArray rfl rfl (info99' S) (show (zs 8).size = (stA S).toArray.size from rfl) (one_stA S) ?_; clear d0 d1 d2 d3 d4 d5 d6 d7 c8)
    | (with_reducible refine wpList_text_win rfl (.tmp 19) 81 9 rfl 5 Tryd.underlying81 agg5 Tryd.underlying9 o.length rfl rfl ho1 ?_)
    | (with_reducible refine wpList_bytes_win (B := w.heap.size + 2) (g := g) rfl (.tmp 20) 9 81 rfl 5 ⟨o.toArray⟩ Tryd.underlying9 Tryd.underlying81 agg5 rfl (by simp) (by simp; omega) hs64 ?_; intro cw w1 hW1 hK1; rw [show ((w.alloc (.cells (zb 32) 39)).alloc (.cells (stA S).toArray 99)).heap.size = w.heap.size + 1 + 1 from by simp] at hW1; have hK2 := hK1.size; simp at hK2)
    | (at_builtin; refine wpList_append_win rfl (.tmp 21) (.tmp 22) 81 81 rfl 5 i0 (.int .u8 0) Tryd.underlying81 hi hz0 hz1 hz2 rfl o.length rfl rfl (hW1.alloc _) (by simp; omega) (by simp; omega) _ rfl (Src.bytes Tryd.underlying81 w1.heap.size 0 1 [128] (BytesAt.one w1 128 5)) (by simp; omega) ?_; intro A2 c2 w2 hW2 hK3))
  have hX : HS w w2 S := by
    have h1 : HS w ((w.alloc (.cells (zb 32) 39)).alloc (.cells (stA S).toArray 99)) S := ⟨hS1, hR1, hB1, by simp⟩
    exact ((h1.kept hK1).alloc _).kept hK3
  clear hK3 hK2 hW1 hK1 hs64 hc81 ho1 hB1 hS1 hR1 hwin
  go_loopw [4] (fun v wr => ∃ (k c : Nat) (A : Option Addr), k ≤ (119 - o.length) % 64 ∧ v = .slice A (o.length + 1 + k) c ∧ Win wr (w.heap.size + 2) g A (o ++ 128 :: List.replicate k 0) c ∧ HS w wr S) (fun v _ => (120 - lenV v % 64) % 64)
  case atStart => exact ⟨0, c2, A2, Nat.zero_le _, rfl, hW2, hX⟩
  case round =>
    clear hW2 hX
    obtain ⟨k, c, A, hk, rfl, hW2, hX⟩ := hrel
    have hl2 : (o ++ 128 :: List.replicate k 0).length = o.length + 1 + k := by simp; omega
    have hX2 := hX.sz
    by_cases hlt : (o.length + 1 + k) % 64 = 56
    · have hlt' : (((o.length : Int) + 1 + (k : Int)) % 64 != 56) = false := by simp; omega
      have HLT := Lib.hid hlt
      clear hlt
      have hn8 : IntKind.u64.wrap (8 * (n : Int)) = ((8 * n : Nat) : Int) := by rw [IntKind.wrap_u64]; omega
      have HL2 := Lib.hid hl2
      clear hl2
      go_wp2
      go_loopw [4, 5] (fun v i wr => ∃ (j c : Nat) (A : Option Addr), j ≤ 8 ∧ v = .slice A (o.length + 1 + k + j) c ∧ i = .int .i64 (56 - 8 * (j : Int)) ∧ Win wr (w.heap.size + 2) g A (o ++ 128 :: (List.replicate k 0 ++ (len8 n).take j)) c ∧ HS w wr S) (fun _ i _ => (intOf i + 8).toNat)
      case atStart => exact ⟨0, c, A, by omega, rfl, by rfl, by simpa using hW2, hX⟩
      case round =>
        clear hW2 hX
        obtain ⟨j, c, A, hj, rfl, rfl, hW2, hX⟩ := hrel
        have c9' := (hX.bl.cell (p := ⟨g, 9, none⟩) hg).trans c9
        have hX2 := hX.sz
        by_cases hj8 : j < 8
        · have q1 : (0 : Int) ≤ 56 - 8 * (j : Int) := by omega
          have hb := len8_byte n j
          have ht := len8_take n j hj8
          obtain ⟨x, hx⟩ : ∃ x, x = UInt8.ofNat (8 * n / 2 ^ (56 - 8 * j) % 256) := ⟨_, rfl⟩
          rw [← hx] at hb ht
          have HT := Lib.hid ht
          have HL3 : Hid ((o ++ 128 :: (List.replicate k 0 ++ (len8 n).take j)).length = o.length + 1 + k + j) := Lib.hid (by simp [len8]; omega)
          clear hx ht
          go_wp2_with (at_builtin; refine wpList_append_win rfl (.tmp 35) (.tmp 44) 81 81 rfl 5 i0 (.int .u8 0) Tryd.underlying81 hi hz0 hz1 hz2 rfl (o.length + 1 + k + j) rfl HL3.out.symm (hW2.alloc _) (by simp; omega) (by simp; omega) _ rfl (Src.bytes Tryd.underlying81 wr.heap.size 0 1 [x] (BytesAt.one wr x 5)) (by rw [HL3.out]; simp; omega) ?_; intro A3 c3 w3 hW3 hK3; rw [List.length_append, HL3.out])
          go_roundw
          case rel =>
            refine ⟨j + 1, c3, A3, by omega, ret_slice (by omega), by go_num, ?_, (hX.alloc _).kept hK3⟩
            rw [HT.out, ← List.append_assoc, ← List.cons_append, ← List.append_assoc]
            exact hW3
          case measure => simp [intOf]; omega
        · go_wp2
          have hnm : o ++ tail n = o ++ 128 :: (List.replicate k 0 ++ (len8 n).take j) := by
            have h1 := HLT.out
            have h2 := HOL.out
            have e1 : k = (119 - n % 64) % 64 := by omega
            rw [tail, fill, e1, List.take_of_length_le (by simp [len8]; omega)]
          have hml : (o ++ tail n).length = o.length + 1 + k + j := by rw [hnm]; simp [len8]; omega
          have hm64 : (o ++ tail n).length % 64 = 0 := by have h1 := HLT.out; omega
          rw [← hnm] at hW2
          rw [show o.length + 1 + k + j = (o ++ tail n).length from hml.symm]
          obtain ⟨F, hF⟩ : ∃ F, F = o ++ tail n := ⟨_, rfl⟩
          rw [← hF] at hW2 hm64 ⊢
          have HF := Lib.hid hF
          have HM := Lib.hid hm64
          clear hml hnm hF hm64
          go_loopw [4] (fun v wr => ∃ (q c : Nat) (A : Option Addr) (r : List UInt8), 64 * q ≤ F.length ∧ r = F.drop (64 * q) ∧ v = .slice A r.length c ∧ Win wr (w.heap.size + 2) g A r c ∧ HS w wr (blocks S F q)) (fun v _ => lenV v)
          case atStart => exact ⟨0, c, A, F, by omega, rfl, rfl, hW2, hX⟩
          case round =>
            clear hW2 hX c9'
            obtain ⟨q, c, A, r, hq, hr, rfl, hW2, hX⟩ := hrel
            have HR := Lib.hid hr
            have HQ := Lib.hid hq
            have hrl : r.length % 64 = 0 := by rw [hr, List.length_drop]; have := HM.out; omega
            have HRL := Lib.hid hrl
            clear hr hq hrl
            by_cases hlt : 0 < r.length
            · obtain ⟨b, off, rfl, hBb, hbg, hbs, hby⟩ := hW2.at_ hlt
              have hrl := HRL.out
              have hcap := hW2.1
              have hmax := hW2.2.1
              unfold maxLen at hmax
              have hc64 : (64 : Int) ≤ (c : Int) := by omega
              have hr64 : (64 : Int) ≤ (r.length : Int) := by omega
              clear hrl
              go_wp2_with (go_at_call 89; refine (take_any (blocks S F q) (r.take 64) (by rw [List.length_take]; omega) b off c (w.heap.size + 1) 99 [] _ (BytesAt.take hby) (by omega) (blocks_ok _ _ _ hok) (by rw [List.append_nil]; exact hX.st)).mono ?_; rintro e w1 ⟨rfl, hH1, hG⟩)
              go_roundw
              case rel =>
                have hr := HR.out
                have hq := HQ.out
                have hrL : r.length = F.length - 64 * q := by rw [hr, List.length_drop]
                have hW3 := (hW2.keep (fun b' hb' _ hlt' => hG.block b' hlt' (by simp; omega)) hG.size).cut (k := 64) (by omega)
                rw [show (if c = 64 then (some ⟨b, off, none⟩ : Option Addr) else (some ⟨b, off, none⟩ : Option Addr).map (·.add 64)) = if c = 64 then some ⟨b, off, none⟩ else some ⟨b, off + 64, none⟩ from by simp [Addr.add]] at hW3
                refine ⟨q + 1, c - 64, _, r.drop 64, by omega, by rw [hr, List.drop_drop, Nat.mul_add, Nat.mul_one], ret_slice (by rw [List.length_drop]), hW3, ?_⟩
                rw [blocks_succ, ← hr]
                exact hX.taken hH1 hG
              case measure => simp [lenV]; omega
            · have hfin : blocks S F q = blocks S F (F.length / 64) := by
                have hr := HR.out
                have hq := HQ.out
                have hrL : r.length = F.length - 64 * q := by rw [hr, List.length_drop]
                rw [show q = F.length / 64 from by omega]
              obtain ⟨T, hT⟩ : ∃ T, T = blocks S F q := ⟨_, rfl⟩
              rw [← hT] at hX
              have HT := Lib.hid (hT.trans hfin)
              clear hT hfin
              have hXz := hX.sz
              have hX2 := hX.alloc (.cells (zb 32) 39)
              have hD := Blk.new wr 39 (zb 32)
              go_wp2_with (first | (with_reducible refine wpList_allocR rfl 39 rfl (zb 32) (zero39 _) ?_))
              go_loopw [54] (fun v wx => ∃ i : Nat, i ≤ 32 ∧ v = .int .i64 i ∧ Blk wx wr.heap.size 39 (dgs T i) ∧ HS w wx T) (fun v _ => 32 - (intOf v).toNat)
              case atStart => exact ⟨0, by omega, rfl, by rw [dgs_zero]; exact hD, hX2⟩
              case round =>
                clear hD hX2 hX
                obtain ⟨i, hil, rfl, hD, hX⟩ := hrel
                by_cases hlt : i < 32
                · have hfD := hD.frozen i
                  have hcD := (hD.cell i).trans (dgs_at T i hlt)
                  have hcS := hX.st.cell (i / 4)
                  rw [show (stA T).toArray[i / 4]? = some (.int .u32 ((T.toList.getD (i / 4) 0 : Nat) : Int)) from by
                    have := get_row T.toList [] (i / 4) (by simp [St.toList]; omega)
                    simpa [stA_toList] using this] at hcS
                  have hdg := dig_spell T i _ rfl
                  obtain ⟨x, hx⟩ : ∃ x, x = T.toList.getD (i / 4) 0 := ⟨_, rfl⟩
                  rw [← hx] at hcS hdg
                  clear hx
                  go_wp2_with (fail)
                  go_roundw
                  case rel =>
                    refine ⟨i + 1, by omega, by go_num, ?_, ?_⟩
                    · have := hD.set_ i (.int .u8 (dig T i : Int))
                      rw [dgs_set T i] at this
                      exact this
                    · exact hX.setCell hXz _
                  case measure => simp [intOf]; omega
                · have HIL := Lib.hid (info39 T i)
                  have HZL : Hid ((zb 32).size = (dgs T i).size) := Lib.hid (by rw [dgs_size]; rfl)
                  have HFD : Hid (dgs T i = dgs (blocks S (o ++ tail n) ((o ++ tail n).length / 64)) 32) := Lib.hid (by rw [HT.out, HF.out, show i = 32 from by omega])
                  go_wp2_with (first | (with_reducible refine wpList_load_row rfl 39 (.tmp 6) rfl _ rfl 39 (dgs T i) (0, 0) _ hD.heap Tryd.underlying39 rfl HIL.out ?_) | (with_reducible refine wpList_store_row rfl 39 (.tmp 2) (.tmp 70) rfl w.heap.size (dgs T i) rfl rfl 39 (zb 32) hX.rs.heap HIL.out HZL.out (one_dgs T i) ?_))
                  exact bodyPost_ret (results_cell_row rfl _ _ w.heap.size 39 (dgs T i) (0, 0) _ rfl (setRow_heap _ _ _ _ _ _ hX.rs) Tryd.underlying39 rfl HIL.out) rfl ⟨below_setRow hX.bl (Nat.le_refl _) _, by rw [HFD.out]⟩
    · have hlt' : (((o.length : Int) + 1 + (k : Int)) % 64 != 56) = true := by simp; omega
      have HLT := Lib.hid hlt
      have HL2 := Lib.hid hl2
      clear hlt hl2
      go_wp2_with (at_builtin; refine wpList_append_win rfl (.tmp 28) (.tmp 29) 81 81 rfl 5 i0 (.int .u8 0) Tryd.underlying81 hi hz0 hz1 hz2 rfl (o.length + 1 + k) rfl HL2.out.symm (hW2.alloc _) (by simp; omega) (by simp; omega) _ rfl (Src.bytes Tryd.underlying81 wr.heap.size 0 1 [0] (BytesAt.one wr 0 5)) (by rw [HL2.out]; simp; omega) ?_; intro A3 c3 w3 hW3 hK3)
      go_roundw
      case rel =>
        have hlt := HLT.out
        refine ⟨k + 1, c3, A3, by omega, ret_slice (by omega), ?_, (hX.alloc _).kept hK3⟩
        rw [List.replicate_succ', ← List.cons_append, ← List.append_assoc]
        exact hW3
      case measure =>
        have hlt := HLT.out
        simp [lenV]
        omega
end Go.Proofs.YtjpaajpjajoijaaDoor
