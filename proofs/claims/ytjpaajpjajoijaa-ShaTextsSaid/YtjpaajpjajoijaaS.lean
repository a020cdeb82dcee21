/- bloomeryref02.digit, sha.Of, bloomeryref02.Of: the digest of a text. -/
import Derived.Test.YtjpaajpjajoijaaO
import Derived.Test.YtjpaajpjajoijaaJ
import Derived.IntWalk
namespace Go.Proofs.Ytjpaajpjajoijaa
set_option linter.unusedVariables false
open Go.RowKit Sha
/-- A digit's value; -1. -/
def dgv (x : UInt8) : Int := if 48 ≤ x.toNat ∧ x.toNat ≤ 57 then (x.toNat : Int) - 48 else if 97 ≤ x.toNat ∧ x.toNat ≤ 102 then (x.toNat : Int) - 97 + 10 else -1
theorem digit_any (x : UInt8) (w : World) : Calls Try.prog 24 #[.int .u8 (x.toNat : Int)] w fun e w' => e = .returned (.int .i64 (dgv x)) ∧ w = w' := by
  have hx := x.toNat_lt
  by_cases h1 : 48 ≤ x.toNat ∧ x.toNat ≤ 57
  · have hv : dgv x = (x.toNat : Int) - 48 := by simp [dgv, h1]
    have HV := Lib.hid hv
    have a1 : (48 : Int) ≤ (x.toNat : Int) := by omega
    have a2 : (x.toNat : Int) ≤ 57 := by omega
    clear hv h1
    go_enter Try.func24, Try.ntmps24
    go_wp2
    go_ret
    exact ⟨by rw [HV.out]; rfl, rfl⟩
  · by_cases h2 : 97 ≤ x.toNat ∧ x.toNat ≤ 102
    · have hv : dgv x = (x.toNat : Int) - 97 + 10 := by simp [dgv, h1, h2]
      have HV := Lib.hid hv
      have a1 : (97 : Int) ≤ (x.toNat : Int) := by omega
      have a2 : (x.toNat : Int) ≤ 102 := by omega
      clear hv h1 h2
      go_enter Try.func24, Try.ntmps24
      go_wp2
      go_ret
      exact ⟨by rw [HV.out]; rfl, rfl⟩
    · have hv : dgv x = -1 := by simp [dgv, h1, h2]
      have HV := Lib.hid hv
      clear hv
      go_enter Try.func24, Try.ntmps24
      go_wp2
      all_goals (first | (exfalso; omega) | (go_ret; exact ⟨by rw [HV.out]; rfl, rfl⟩))
theorem index_dgv : ∀ x : UInt8, Lib.indexByte digs x = dgv x := by
  intro x
  have : ∀ n : Fin 256, Lib.indexByte digs (UInt8.ofNat n.val) = dgv (UInt8.ofNat n.val) := by decide +kernel
  have h := this ⟨x.toNat, x.toNat_lt⟩
  rwa [UInt8.ofNat_toNat] at h
theorem dgv_lt (x : UInt8) : dgv x < 16 := by
  unfold dgv
  split
  · omega
  · split <;> omega
/-- The byte that two digits tell. -/
def byteOf (s : List UInt8) (i : Nat) : UInt8 := UInt8.ofNat (16 * dgv (s.getD (2 * i) 0) + dgv (s.getD (2 * i + 1) 0)).toNat
def dgo (s : List UInt8) (k : Nat) : List UInt8 := (List.range 32).map fun i => if i < k then byteOf s i else 0
def okTo (s : List UInt8) (k : Nat) : Prop := ∀ j, j < k → 0 ≤ dgv (s.getD (2 * j) 0) ∧ 0 ≤ dgv (s.getD (2 * j + 1) 0)
instance (s : List UInt8) (k : Nat) : Decidable (okTo s k) := by unfold okTo; infer_instance
/-- The digest of a text, and whether it is one. -/
def ofOk (s : List UInt8) : Bool := decide (s.length = 64 ∧ okTo s 32)
def ofD (s : List UInt8) : List UInt8 := if ofOk s then dgo s 32 else List.replicate 32 0
theorem dgo_length (s : List UInt8) (k : Nat) : (dgo s k).length = 32 := by simp [dgo]
theorem ofD_length (s : List UInt8) : (ofD s).length = 32 := by unfold ofD; split <;> simp [dgo]
theorem Dg_zero : Dg (List.replicate 32 0) = zb 32 := by simp [Dg, zb, Bv]
theorem dgo_zero (s : List UInt8) : Dg (dgo s 0) = zb 32 := by
  rw [← Dg_zero]
  rfl
theorem dgo_set (s : List UInt8) (k : Nat) : (Dg (dgo s k)).setIfInBounds k (.int .u8 ((byteOf s k).toNat : Int)) = Dg (dgo s (k + 1)) := by
  rw [show (.int .u8 ((byteOf s k).toNat : Int) : Value) = Bv (byteOf s k) from rfl]
  unfold Dg
  rw [List.setIfInBounds_toArray, ← List.map_set]
  congr 2
  unfold dgo
  apply List.ext_getElem (by simp)
  intro j h1 h2
  rw [List.getElem_set]
  by_cases e : k = j
  · subst e; simp
  · simp [e, show (j < k + 1 ↔ j < k) from by omega]
theorem one_Dg (d : List UInt8) : (Dg d).all (·.oneCell') = true := by simp [Dg, Bv, Value.oneCell']
theorem info27d (d : List UInt8) (h : d.length = 32) : (Try.prog.info? 27).map (·.size) = some (Dg d).size := by rw [Dg_size, h]; kernel_rfl
theorem of_bad (s : List UInt8) (h : ¬ (s.length = 64 ∧ okTo s 32)) : ofOk s = false ∧ Dg (ofD s) = zb 32 := by
  have h1 : ofOk s = false := decide_eq_false h
  refine ⟨h1, ?_⟩
  unfold ofD
  rw [h1, ← Dg_zero]
  rfl
theorem of_good (s : List UInt8) (h : s.length = 64 ∧ okTo s 32) : ofOk s = true ∧ ofD s = dgo s 32 := by
  have h1 : ofOk s = true := decide_eq_true h
  refine ⟨h1, ?_⟩
  unfold ofD
  rw [h1]
  rfl
theorem byteOf_spell (s : List UInt8) (i : Nat) (h l : Int) (hh : h = dgv (s.getD (2 * i) 0)) (hl : l = dgv (s.getD (2 * i + 1) 0)) (h0 : 0 ≤ h) (l0 : 0 ≤ l) : 16 * h + l = ((byteOf s i).toNat : Int) := by
  have a := dgv_lt (s.getD (2 * i) 0)
  have b := dgv_lt (s.getD (2 * i + 1) 0)
  rw [← hh] at a
  rw [← hl] at b
  unfold byteOf
  rw [← hh, ← hl, UInt8.toNat_ofNat_of_lt' (show (16 * h + l).toNat < UInt8.size from by simp [UInt8.size]; omega)]
  omega
theorem or_dig (h l : Int) (h0 : 0 ≤ h) (h1 : h < 16) (l0 : 0 ≤ l) (l1 : l < 16) : bits .or .i64 (h * 16) l = 16 * h + l := by
  have : ∀ a b : Fin 16, bits .or .i64 ((a.val : Int) * 16) (b.val : Int) = 16 * (a.val : Int) + (b.val : Int) := by decide +kernel
  have h2 := this ⟨h.toNat, by omega⟩ ⟨l.toNat, by omega⟩
  simpa [Int.toNat_of_nonneg h0, Int.toNat_of_nonneg l0] using h2
theorem results_row_tmp {P : Program} {fn : Func} {p u : Tmp} {ty : TypeId} (h : fn.results = #[.cell p ty, .tmp u]) (tmps : Array Value) (w : World) (g : Nat) (t : TypeId) (cs : Array Value) (fr : Nat × Nat) (d : TypeDesc)
    (hp : tmps.getD p undef = .pointer (some ⟨g, 0, none⟩)) (hg : w.heap[g]? = some (.cells cs t fr))
    (hu : P.underlying ty = some d) (hd : (match d with | .struct _ | .array _ _ => true | _ => false) = true) (hi : (P.info? ty).map (·.size) = some cs.size) :
    (results fn tmps).run P w = .ok (.tuple #[.agg cs, tmps.getD u undef]) w := by
  rw [results_cell_tmp h, hp]
  simp [asAddr, run_loadVar_row w g t ty cs fr d hg hu hd hi]
set_option maxHeartbeats 400000 in
set_option maxRecDepth 100000 in
theorem rof_any (s : ByteArray) (w : World) (hs : s.size ≤ maxLen) :
    Calls Try.prog 16 #[.string s] w fun e w' => e = .returned (.tuple #[.agg (Dg (ofD s.data.toList)), .bool (ofOk s.data.toList)]) ∧ Below w.heap.size w w' := by
  unfold maxLen at hs
  have hR0 := Blk.new w 27 (zb 32)
  have hD0 : Blk ((w.alloc (.cells (zb 32) 27)).alloc (.cells (zb 32) 27)) (w.heap.size + 1) 27 (zb 32) := by
    have := Blk.new (w.alloc (.cells (zb 32) 27)) 27 (zb 32)
    rwa [World.size_alloc] at this
  have hR1 := hR0.alloc (.cells (zb 32) 27)
  have hB1 : Below w.heap.size w ((w.alloc (.cells (zb 32) 27)).alloc (.cells (zb 32) 27)) := ((Below.refl _ _).alloc (Nat.le_refl _) _).alloc (by simp) _
  by_cases h64 : s.size = 64
  · go_enter Try.func16, Try.ntmps16
    have q64b : ((s.size : Int) != 64) = false := by simp; omega
    have H64 := Lib.hid h64
    clear h64
    go_wp2_with (first
      | (with_reducible refine wpList_allocR rfl 27 rfl (zb 32) (zero27 _) ?_)
      | (with_reducible refine wpList_buildR rfl 27 _ rfl (zb 32) empty27 ?_)
      | (with_reducible refine wpList_storeR rfl 27 (.tmp 4) (.tmp 8) rfl 27 (zb 32) (zb 32) rfl rfl info27z rfl one_zb ?_))
    go_loopw [5] (fun v wr => ∃ k : Nat, k ≤ 32 ∧ v = .int .i64 k ∧ okTo s.data.toList k ∧ Blk wr (w.heap.size + 1) 27 (Dg (dgo s.data.toList k)) ∧ Blk wr w.heap.size 27 (zb 32) ∧ Below w.heap.size w wr) (fun v _ => 32 - (intOf v).toNat)
    case atStart => exact ⟨0, by omega, rfl, fun j hj => absurd hj (by omega), by rw [dgo_zero]; exact hD0, hR1, hB1⟩
    case round =>
      clear hD0 hR0 hR1 hB1
      obtain ⟨k, hk, rfl, hok, hD, hR, hB⟩ := hrel
      have HOK := Lib.hid hok
      clear hok
      by_cases hlt : k < 32
      · have i1 : 2 * k < s.size := by have := H64.out; omega
        have i2 : 2 * k + 1 < s.size := by have := H64.out; omega
        have q2 : 2 * (k : Int) < (s.size : Int) := by omega
        have q5 : 2 * (k : Int) + 1 < (s.size : Int) := by omega
        obtain ⟨h, hh⟩ : ∃ h, h = dgv (s.data.toList.getD (2 * k) 0) := ⟨_, rfl⟩
        obtain ⟨l, hl⟩ : ∃ l, l = dgv (s.data.toList.getD (2 * k + 1) 0) := ⟨_, rfl⟩
        have dh : ∀ w, Calls Try.prog 24 #[.int .u8 (s[2 * k].toNat : Int)] w fun e w' => e = .returned (.int .i64 h) ∧ w' = w := fun w => by
          have e : s[2 * k] = s.data.toList.getD (2 * k) 0 := by rw [List.getD, List.getElem?_eq_getElem (show 2 * k < s.data.toList.length from i1)]; rfl
          rw [hh, ← e]
          exact (digit_any _ w).mono fun _ _ h => ⟨h.1, h.2.symm⟩
        have dl : ∀ w, Calls Try.prog 24 #[.int .u8 (s[2 * k + 1].toNat : Int)] w fun e w' => e = .returned (.int .i64 l) ∧ w' = w := fun w => by
          have e : s[2 * k + 1] = s.data.toList.getD (2 * k + 1) 0 := by rw [List.getD, List.getElem?_eq_getElem (show 2 * k + 1 < s.data.toList.length from i2)]; rfl
          rw [hl, ← e]
          exact (digit_any _ w).mono fun _ _ h => ⟨h.1, h.2.symm⟩
        have hh16 : h < 16 := by rw [hh]; exact dgv_lt _
        have hl16 : l < 16 := by rw [hl]; exact dgv_lt _
        have HH := Lib.hid hh
        have HL := Lib.hid hl
        have DH := Lib.hid dh
        have DL := Lib.hid dl
        clear hh hl dh dl
        go_wp2_with fail
        have q1 : (0 : Int) ≤ 2 * (k : Int) := by omega
        have q3 : (2 * (k : Int)).toNat = 2 * k := by omega
        have q4 : (0 : Int) ≤ 2 * (k : Int) + 1 := by omega
        have q6 : (2 * (k : Int) + 1).toNat = 2 * k + 1 := by omega
        have q7 : IntKind.i64.wrap (2 * (k : Int)) = 2 * (k : Int) := IntWalk.i64_in _ (by omega)
        have q8 : IntKind.i64.wrap (2 * (k : Int) + 1) = 2 * (k : Int) + 1 := IntWalk.i64_in _ (by omega)
        go_quiet ((go_at_call 24; first | (with_reducible exact Calls.quiet_of_same (DH.out _)) | (with_reducible exact Calls.quiet_of_same (DL.out _)) | (with_reducible exact quiet_add_same (DH.out _)) | (with_reducible exact quiet_add_same (DL.out _))))
        clear q7 q8
        by_cases hgood : 0 ≤ h ∧ 0 ≤ l
        · have g1 : ¬ h < 0 := by omega
          have g2 : ¬ l < 0 := by omega
          have g3 : 0 ≤ h := hgood.1
          have g4 : 0 ≤ l := hgood.2
          have hby := byteOf_spell s.data.toList k h l HH.out HL.out g3 g4
          obtain ⟨x, hx⟩ : ∃ x, x = byteOf s.data.toList k := ⟨_, rfl⟩
          rw [← hx] at hby
          have hx2 := x.toNat_lt
          have hfD := hD.frozen k
          have hcD : wr.cell? ⟨w.heap.size + 1, k, none⟩ = some (.int .u8 (((dgo s.data.toList k)[k]'(by rw [dgo_length]; exact hlt)).toNat : Int)) := (hD.cell k).trans (Dg_get _ k (by rw [dgo_length]; exact hlt))
          obtain ⟨u, hu⟩ : ∃ u, u = (dgo s.data.toList k)[k]'(by rw [dgo_length]; exact hlt) := ⟨_, rfl⟩
          rw [← hu] at hcD
          have HBY := Lib.hid hby
          have HX := Lib.hid hx
          clear hu hgood hx
          go_wp2_with fail
          go_roundw
          case rel =>
            refine ⟨k + 1, by omega, by go_num, fun j hj => ?_, ?_, (hR.drewN nq).far (by simp) _, (below_drewN hB nq).setCell (p := ⟨w.heap.size + 1, k, none⟩) (by simp) _⟩
            · rcases Nat.lt_or_ge j k with h1 | h1
              · exact HOK.out j h1
              · obtain rfl : j = k := by omega
                rw [← HH.out, ← HL.out]
                exact ⟨g3, g4⟩
            · have h5 := (hD.drewN nq).set_ k (.int .u8 ((byteOf s.data.toList k).toNat : Int))
              rw [dgo_set, ← HX.out] at h5
              exact h5
          case measure => simp [intOf]; omega
        · have hbad := of_bad s.data.toList (fun hc => hgood (by rw [HH.out, HL.out]; exact hc.2 k hlt))
          have HBAD := Lib.hid hbad
          clear hbad
          have hB2 := below_setRow (below_drewN hB nq) (Nat.le_refl _) (zb 32)
          by_cases g1 : h < 0
          · go_wp2_with (first
              | (with_reducible refine wpList_buildR rfl 27 _ rfl (zb 32) empty27 ?_)
              | (with_reducible refine wpList_store_row rfl 27 (.tmp 2) (.tmp 34) rfl w.heap.size (zb 32) rfl rfl 27 (zb 32) (hR.drewN nq).heap info27z rfl one_zb ?_))
            exact bodyPost_ret (results_row_tmp rfl _ _ w.heap.size 27 (zb 32) (0, 0) _ rfl (setRow_heap _ _ _ _ _ _ (hR.drewN nq)) Try.underlying27 rfl info27z) rfl ⟨by rw [HBAD.out.1, HBAD.out.2]; rfl, hB2⟩
          · have g2 : l < 0 := by omega
            go_wp2_with (first
              | (with_reducible refine wpList_buildR rfl 27 _ rfl (zb 32) empty27 ?_)
              | (with_reducible refine wpList_store_row rfl 27 (.tmp 2) (.tmp 34) rfl w.heap.size (zb 32) rfl rfl 27 (zb 32) (hR.drewN nq).heap info27z rfl one_zb ?_))
            exact bodyPost_ret (results_row_tmp rfl _ _ w.heap.size 27 (zb 32) (0, 0) _ rfl (setRow_heap _ _ _ _ _ _ (hR.drewN nq)) Try.underlying27 rfl info27z) rfl ⟨by rw [HBAD.out.1, HBAD.out.2]; rfl, hB2⟩
      · have hgood := of_good s.data.toList ⟨H64.out, by rw [show 32 = k from by omega]; exact HOK.out⟩
        rw [show (32 : Nat) = k from by omega] at hgood
        have HG := Lib.hid hgood
        have HIL := Lib.hid (info27d (dgo s.data.toList k) (dgo_length _ _))
        have HZL : Hid ((zb 32).size = (Dg (dgo s.data.toList k)).size) := Lib.hid (by rw [Dg_size, dgo_length]; rfl)
        clear hgood
        go_wp2_with (first
          | (with_reducible refine wpList_load_row rfl 27 (.tmp 4) rfl (w.heap.size + 1) rfl 27 (Dg (dgo s.data.toList k)) (0, 0) _ hD.heap Try.underlying27 rfl HIL.out ?_)
          | (with_reducible refine wpList_store_row rfl 27 (.tmp 2) (.tmp 42) rfl w.heap.size (Dg (dgo s.data.toList k)) rfl rfl 27 (zb 32) hR.heap HIL.out HZL.out (one_Dg _) ?_))
        exact bodyPost_ret (results_row_tmp rfl _ _ w.heap.size 27 (Dg (dgo s.data.toList k)) (0, 0) _ rfl (setRow_heap _ _ _ _ _ _ hR) Try.underlying27 rfl HIL.out) rfl ⟨by rw [HG.out.1, HG.out.2]; rfl, below_setRow hB (Nat.le_refl _) _⟩
  · go_enter Try.func16, Try.ntmps16
    have q64b : ((s.size : Int) != 64) = true := by simp; omega
    have hbad := of_bad s.data.toList (fun h => h64 h.1)
    go_wp2_with (first
      | (with_reducible refine wpList_allocR rfl 27 rfl (zb 32) (zero27 _) ?_)
      | (with_reducible refine wpList_buildR rfl 27 _ rfl (zb 32) empty27 ?_)
      | (with_reducible refine wpList_storeR rfl 27 (.tmp 4) (.tmp 8) rfl 27 (zb 32) (zb 32) rfl rfl info27z rfl one_zb ?_)
      | (with_reducible refine wpList_load_row rfl 27 (.tmp 4) rfl (w.heap.size + 1) rfl 27 (zb 32) (0, 0) _ hD0.heap Try.underlying27 rfl info27z ?_)
      | (with_reducible refine wpList_store_row rfl 27 (.tmp 2) (.tmp 12) rfl w.heap.size (zb 32) rfl rfl 27 (zb 32) hR1.heap info27z rfl one_zb ?_))
    exact bodyPost_ret (results_row_tmp rfl _ _ w.heap.size 27 (zb 32) (0, 0) _ rfl (setRow_heap _ _ _ _ _ _ hR1) Try.underlying27 rfl info27z) rfl ⟨by rw [hbad.1, hbad.2]; rfl, below_setRow hB1 (Nat.le_refl _) _⟩
end Go.Proofs.Ytjpaajpjajoijaa
