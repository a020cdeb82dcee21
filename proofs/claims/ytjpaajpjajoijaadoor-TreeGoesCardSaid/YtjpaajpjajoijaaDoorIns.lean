/- slices.Insert of one file. -/
import Derived.Test.YtjpaajpjajoijaaDoorSplice
import Derived.Laws.Externs
import Derived.Lib.AppendZeros
namespace Go.Proofs.YtjpaajpjajoijaaDoor
set_option linter.unusedVariables false
open Go.RowKit
theorem zero_cells_len (z : Array Value) (n : Nat) : (Builtin.zeroCells z n).size = n * z.size := by simp [Builtin.zeroCells]
set_option maxHeartbeats 4000000 in
set_option maxRecDepth 100000 in
theorem insert_end (l : List FileB) (f : FileB) (i : Nat) (A : Option Addr) (c B vb : Nat) (w : World)
    (hown : w.ownsRow B 36 2 (.slice A l.length c) l.length (fcells l)) (hv : Blk w vb 36 #[.string f.1, .string f.2]) (hvb : ∀ a, A = some a → a.block ≠ vb) (hB : B ≤ w.heap.size) (hi : i ≤ l.length) (hn : l.length ≤ 1000) (hin : i = l.length) :
    Calls Tryd.prog 53 #[.slice A l.length c, .int .i64 i, .slice (some ⟨vb, 0, none⟩) 1 1] w fun e w' => ∃ (A' : Option Addr) (cap : Nat), e = .returned (.slice A' (l.length + 1) cap) ∧
      w'.ownsRow B 36 2 (.slice A' (l.length + 1) cap) (l.length + 1) (fcells (l.take i ++ f :: l.drop i)) ∧ Below B w w' := by
  obtain ⟨i0, hi0, hz0, hz1, hz2⟩ := info_parts info36p
  have hvc : ∀ j x, ([.string f.1, .string f.2] : List Value)[j]? = some x → w.cell? ((⟨vb, 0, none⟩ : Addr).add j) = some x := fun j x hj => by
    rw [Addr.add_lit, Nat.zero_add, hv.cell]
    simpa using hj
  obtain ⟨n, hln⟩ : ∃ n, n = l.length := ⟨_, rfl⟩
  rw [← hln] at hin
  have hR : fcells (l.take i ++ f :: l.drop i) = fcells l ++ [.string f.1, .string f.2] := by
    rw [hin, hln, List.take_length, List.drop_length, fcells_append, fcells_one]
  have hR2 := Lib.hid hR
  have hb0 := fun k e => (hown.lt k e).1
  obtain ⟨xs, hxs⟩ : ∃ xs, xs = fcells l := ⟨_, rfl⟩
  rw [← hxs] at hown
  rw [hR, ← hxs]
  rw [← hln] at hown hn hb0 ⊢
  subst hin
  clear hR hR2 hxs hln hi
  go_enter Tryd.func53, Tryd.ntmps53
  go_wp2_with (at_builtin; refine wpList_append_lies _ rfl (.tmp 23) (.tmp 24) 22 rfl B 36 i0 (.agg #[.string ⟨#[]⟩, .string ⟨#[]⟩]) 2 32 Tryd.underlying22 hi0 hz0 hz1 hz2 rfl (by decide) (.slice A i c) i _ rfl hown ⟨vb, 0, none⟩ 1 1 [.string f.1, .string f.2] rfl rfl hvc (by simp [Value.oneCell']) (by decide) (by unfold maxLen; omega) (by omega) (by omega) _ rfl ?_; intro g2 cap2 w2 hown2 hgrow hat hg2)
  all_goals (go_ret; exact ⟨_, _, rfl, hown2, (Below.refl _ _).grown hgrow hB hb0⟩)
set_option maxHeartbeats 4000000 in
set_option maxRecDepth 100000 in
theorem insert_room (l : List FileB) (f : FileB) (i : Nat) (A : Option Addr) (c B vb : Nat) (w : World)
    (hown : w.ownsRow B 36 2 (.slice A l.length c) l.length (fcells l)) (hv : Blk w vb 36 #[.string f.1, .string f.2]) (hvb : ∀ a, A = some a → a.block ≠ vb) (hB : B ≤ w.heap.size) (hi : i ≤ l.length) (hn : l.length ≤ 1000) (hin : ¬ i = l.length) (hroom : l.length + 1 ≤ c) :
    Calls Tryd.prog 53 #[.slice A l.length c, .int .i64 i, .slice (some ⟨vb, 0, none⟩) 1 1] w fun e w' => ∃ (A' : Option Addr) (cap : Nat), e = .returned (.slice A' (l.length + 1) cap) ∧
      w'.ownsRow B 36 2 (.slice A' (l.length + 1) cap) (l.length + 1) (fcells (l.take i ++ f :: l.drop i)) ∧ Below B w w' := by
  obtain ⟨i0, hi0, hz0, hz1, hz2⟩ := info_parts info36p
  have hvc : ∀ j x, ([.string f.1, .string f.2] : List Value)[j]? = some x → w.cell? ((⟨vb, 0, none⟩ : Addr).add j) = some x := fun j x hj => by
    rw [Addr.add_lit, Nat.zero_add, hv.cell]
    simpa using hj
  obtain ⟨n, hln⟩ : ∃ n, n = l.length := ⟨_, rfl⟩
  rw [← hln] at hin hroom
  have hin2 : i < n := by omega
  obtain ⟨g, cur, rfl, hBg, hg, hnc, hcm, hcl, htk⟩ := own_open hown (by omega)
  have hgv : g ≠ vb := hvb _ rfl
  have hgl : g < w.heap.size := (Array.getElem?_eq_some_iff.1 hg).1
  have hvl : vb < w.heap.size := hv.lt
  have hX : (fcells (l.take i)).length = i * 2 := by rw [fcells_length, List.length_take]; omega
  have hZ : (fcells (l.drop i)).length = (n - i) * 2 := by rw [fcells_length, List.length_drop, ← hln]
  have hdt : (fcells l).take (i * 2) = fcells (l.take i) := fcells_take l i
  have hdd : (fcells l).drop (i * 2) = fcells (l.drop i) := fcells_drop l i
  have hX1 : cur.take (i * 2) = fcells (l.take i) := by rw [← hdt, ← htk, List.take_take]; congr 1; omega
  have hZ1 : ∀ j v, (fcells (l.drop i))[j]? = some v → w.cell? ⟨g, i * 2 + j, none⟩ = some v := fun j v hj => by
    rw [cell_of_row w g _ _ 36 (0, 0) hg, List.getElem?_toArray]
    rw [← hdd, List.getElem?_drop, ← htk, List.getElem?_take] at hj
    split at hj
    · exact hj
    · cases hj
  have hR : fcells (l.take i ++ f :: l.drop i) = fcells (l.take i) ++ ([.string f.1, .string f.2] ++ fcells (l.drop i)) := by
    rw [fcells_append, show f :: l.drop i = [f] ++ l.drop i from rfl, fcells_append, fcells_one]
  have hZo := fcells_one' (l.drop i)
  rw [hR]
  rw [← hln] at hn hnc htk ⊢
  obtain ⟨X, hXe⟩ : ∃ X, X = fcells (l.take i) := ⟨_, rfl⟩
  obtain ⟨Z, hZe⟩ : ∃ Z, Z = fcells (l.drop i) := ⟨_, rfl⟩
  obtain ⟨xs, hxs⟩ : ∃ xs, xs = fcells l := ⟨_, rfl⟩
  rw [← hXe] at hX hX1 ⊢
  rw [← hZe] at hZ hZ1 hZo ⊢
  have e1 : ¬ ((i : Int) = (n : Int)) := by omega
  have e2 : (i : Int) ≤ (n : Int) := by omega
  have e3 : ¬ c = i := by omega
  have HG := Lib.hid hg
  have HX1 := Lib.hid hX1
  have HZ1 := Lib.hid hZ1
  have HVC := Lib.hid hvc
  have HV := Lib.hid hv
  have HX := Lib.hid hX
  have HZ := Lib.hid hZ
  have HCL := Lib.hid hcl
  clear hg hX1 hZ1 hvc hv hX hZ hcl hown hR hXe hZe hxs htk hdt hdd hin hln
  have hsA : w.shape? vb = some (36, 2) := by unfold World.shape?; rw [HV.out.heap]; rfl
  have hsB : w.shape? g = some (36, cur.length) := by unfold World.shape?; rw [HG.out]; rfl
  have hov : ∀ lb cb, (callFunc 68 #[.slice (some ⟨vb, 0, none⟩) 1 1, .slice (some ⟨g, (i + 1) * 2, none⟩) lb cb]).run Tryd.prog w = .ok (.value (.bool false)) w := fun lb cb => by
    rw [run_callFunc_extern Tryd.func68 (by kernel_rfl) (by kernel_rfl) (by kernel_rfl) (e := Extern.SlicesOverlaps.overlaps #[22, 22] #[4]) (by kernel_rfl),
      Lib.run_overlaps_apart w 22 4 36 Tryd.underlying22 2 (by intro w'; simp [sizeOf, typeInfo, hi0, hz1]) ⟨vb, 0, none⟩ ⟨g, (i + 1) * 2, none⟩ 1 1 lb cb (fun e => hgv e.symm) 36 36 2 cur.length hsA hsB (by rw [HCL.out]; omega) (HV.out.frozen 0) (HV.out.frozen 2)]
    rfl
  have m1 : Nat.min 1 (n + 1 - i) = 1 := Nat.min_eq_left (by omega)
  have m2 : Nat.min (n + 1 - i) (n + 1 - (i + 1)) = n - i := by show min _ _ = _; omega
  have hG63 : c ≤ 9223372036854775807 := by unfold maxLen at hcm; omega
  have mixed : Tryd.prog.follows Departure.mixedOrders = true := by kernel_rfl
  have e5 : ¬ c = i + 1 := by omega
  have e6 : (i : Int) ≤ (n : Int) + 1 := by omega
  have e7 : ¬ (c : Int) < (n : Int) + 1 := by omega
  have e7' : (n : Int) + 1 ≤ (c : Int) := by omega
  have e8 : IntKind.i64.wrap ((i : Int) + 1) = (i : Int) + 1 := by rw [IntKind.wrap_i64]; omega
  have e9 : ((i : Int) + 1).toNat = i + 1 := by omega
  have e10 : (0 : Int) ≤ (i : Int) + 1 := by omega
  have hs2 : ∀ j v, Z[j]? = some v → w.drew.cell? ((⟨g, i * 2, none⟩ : Addr).add j) = some v := fun j v hj => by
    rw [Addr.add_lit]
    exact HZ1.out j v hj
  have hf2 : (i + 1) * 2 + Z.length ≤ cur.length := by rw [HCL.out, HZ.out]; omega
  have HOV := Lib.hid hov
  have HS2 := Lib.hid hs2
  clear hsA hsB hov hs2
  go_enter Tryd.func53, Tryd.ntmps53
  go_wp2_with (simp only [HOV.out])
  go_region_law_o (refine step_copy_wide rfl (.tmp 73) (.tmp 76) 22 22 rfl 36 i0 Tryd.underlying22 hi0 (some ⟨g, (i + 1) * 2, none⟩) (some ⟨g, i * 2, none⟩) (n + 1 - (i + 1)) (c - (i + 1)) (n + 1 - i) (c - i) (by simp [Act.eval, Act.put]) (by simp [Act.eval, Act.put]) g ((i + 1) * 2) cur 36 HG.out Z (by rw [hz1, m2]; exact HZ.out) rfl ⟨g, i * 2, none⟩ rfl HS2.out hf2 hZo ?_; intro w3 hr3 hg3)
  have hl3 : (splice cur ((i + 1) * 2) Z).length = c * 2 := by rw [length_splice _ _ _ hf2, HCL.out]
  have HL3 := Lib.hid hl3
  have hf3 : i * 2 + [Value.string f.1, Value.string f.2].length ≤ (splice cur ((i + 1) * 2) Z).length := by rw [hl3]; simp; omega
  clear hl3
  have hvc3 : ∀ j x, ([.string f.1, .string f.2] : List Value)[j]? = some x → w3.cell? ((⟨vb, 0, none⟩ : Addr).add j) = some x := fun j x hj =>
    hg3.cell (a := (⟨vb, 0, none⟩ : Addr).add j) (HVC.out j x hj) (by rw [add_block]; intro e; injection e with e; exact hgv e.symm)
  have HVC3 := Lib.hid hvc3
  clear hvc3
  go_wp2_with (refine wpList_copy_wide (o := ⟨some 82, _, _, _, _, _⟩) rfl (.tmp 80) (.tmp 81) 22 22 rfl 36 i0 Tryd.underlying22 hi0 _ _ _ _ _ _ rfl rfl g (i * 2) (splice cur ((i + 1) * 2) Z) 36 hr3.out [.string f.1, .string f.2] (by rw [hz1, m1]; rfl) rfl ⟨vb, 0, none⟩ rfl HVC3.out hf3 (by simp [Value.oneCell']) ?_; intro w4 hr4 hg4)
  go_ret
  refine ⟨_, _, rfl, own_shut hBg hr4.out hroom hcm ?_ ?_, ?_⟩
  · rw [length_splice _ _ _ hf3, HL3.out]
  · rw [show (i + 1) * 2 = i * 2 + 2 from by omega]
    exact splice_shift cur X [.string f.1, .string f.2] Z (i * 2) 2 ((n + 1) * 2) HX.out rfl HX1.out (by rw [HZ.out]; omega) (by rw [HCL.out]; omega)
  · exact (((Below.refl B w).drew).grown hg3 hB (by intro k e; cases e; exact hBg)).grown hg4 (by have := hg3.size; show B ≤ w3.heap.size; exact Nat.le_trans hB this) (by intro k e; cases e; exact hBg)
set_option maxHeartbeats 4000000 in
set_option maxRecDepth 100000 in
theorem insert_grow (l : List FileB) (f : FileB) (i : Nat) (A : Option Addr) (c B vb : Nat) (w : World)
    (hown : w.ownsRow B 36 2 (.slice A l.length c) l.length (fcells l)) (hv : Blk w vb 36 #[.string f.1, .string f.2]) (hvb : ∀ a, A = some a → a.block ≠ vb) (hB : B ≤ w.heap.size) (hi : i ≤ l.length) (hn : l.length ≤ 1000) (hin : ¬ i = l.length) (hroom : ¬ l.length + 1 ≤ c) :
    Calls Tryd.prog 53 #[.slice A l.length c, .int .i64 i, .slice (some ⟨vb, 0, none⟩) 1 1] w fun e w' => ∃ (A' : Option Addr) (cap : Nat), e = .returned (.slice A' (l.length + 1) cap) ∧
      w'.ownsRow B 36 2 (.slice A' (l.length + 1) cap) (l.length + 1) (fcells (l.take i ++ f :: l.drop i)) ∧ Below B w w' := by
  obtain ⟨i0, hi0, hz0, hz1, hz2⟩ := info_parts info36p
  have hvc : ∀ j x, ([.string f.1, .string f.2] : List Value)[j]? = some x → w.cell? ((⟨vb, 0, none⟩ : Addr).add j) = some x := fun j x hj => by
    rw [Addr.add_lit, Nat.zero_add, hv.cell]
    simpa using hj
  obtain ⟨n, hln⟩ : ∃ n, n = l.length := ⟨_, rfl⟩
  rw [← hln] at hin hroom
  have hin2 : i < n := by omega
  obtain ⟨g, cur, rfl, hBg, hg, hnc, hcm, hcl, htk⟩ := own_open hown (by omega)
  have hgv : g ≠ vb := hvb _ rfl
  have hgl : g < w.heap.size := (Array.getElem?_eq_some_iff.1 hg).1
  have hvl : vb < w.heap.size := hv.lt
  have hX : (fcells (l.take i)).length = i * 2 := by rw [fcells_length, List.length_take]; omega
  have hZ : (fcells (l.drop i)).length = (n - i) * 2 := by rw [fcells_length, List.length_drop, ← hln]
  have hdt : (fcells l).take (i * 2) = fcells (l.take i) := fcells_take l i
  have hdd : (fcells l).drop (i * 2) = fcells (l.drop i) := fcells_drop l i
  have hX1 : cur.take (i * 2) = fcells (l.take i) := by rw [← hdt, ← htk, List.take_take]; congr 1; omega
  have hZ1 : ∀ j v, (fcells (l.drop i))[j]? = some v → w.cell? ⟨g, i * 2 + j, none⟩ = some v := fun j v hj => by
    rw [cell_of_row w g _ _ 36 (0, 0) hg, List.getElem?_toArray]
    rw [← hdd, List.getElem?_drop, ← htk, List.getElem?_take] at hj
    split at hj
    · exact hj
    · cases hj
  have hR : fcells (l.take i ++ f :: l.drop i) = fcells (l.take i) ++ ([.string f.1, .string f.2] ++ fcells (l.drop i)) := by
    rw [fcells_append, show f :: l.drop i = [f] ++ l.drop i from rfl, fcells_append, fcells_one]
  have hZo := fcells_one' (l.drop i)
  rw [hR]
  rw [← hln] at hn hnc htk ⊢
  obtain ⟨X, hXe⟩ : ∃ X, X = fcells (l.take i) := ⟨_, rfl⟩
  obtain ⟨Z, hZe⟩ : ∃ Z, Z = fcells (l.drop i) := ⟨_, rfl⟩
  obtain ⟨xs, hxs⟩ : ∃ xs, xs = fcells l := ⟨_, rfl⟩
  rw [← hXe] at hX hX1 ⊢
  rw [← hZe] at hZ hZ1 hZo ⊢
  have e1 : ¬ ((i : Int) = (n : Int)) := by omega
  have e2 : (i : Int) ≤ (n : Int) := by omega
  have e3 : ¬ c = i := by omega
  have HG := Lib.hid hg
  have HX1 := Lib.hid hX1
  have HZ1 := Lib.hid hZ1
  have HVC := Lib.hid hvc
  have HV := Lib.hid hv
  have HX := Lib.hid hX
  have HZ := Lib.hid hZ
  have HCL := Lib.hid hcl
  clear hg hX1 hZ1 hvc hv hX hZ hcl hown hR hXe hZe hxs htk hdt hdd hin hln
  have hik : i + (n + 1 - i) = n + 1 := by omega
  have hkk : (n : Int) + 1 - (i : Int) = ((n + 1 - i : Nat) : Int) := by omega
  have hold : (Builtin.firstCells i0.size i (.slice (some ⟨g, 0, none⟩) i c)).run Tryd.prog w.drew = .ok X.toArray w.drew := by
    rw [hz1]
    exact run_firstCells_some w.drew 2 i ⟨g, 0, none⟩ i c X HX.out (fun j v hj => by
      rw [Addr.add_lit, Nat.zero_add]
      show w.cell? _ = _
      rw [cell_of_row w g _ _ 36 (0, 0) HG.out, List.getElem?_toArray]
      rw [← HX1.out, List.getElem?_take] at hj
      split at hj
      · exact hj
      · cases hj)
  have hrz : ∀ ty, (Builtin.append_ #[22, 3] ty #[.slice (some ⟨g, 0, none⟩) i c, .int .i64 ((n : Int) + 1 - (i : Int))]).run Tryd.prog w =
      .ok (.slice (some ⟨w.heap.size, 0, none⟩) (n + 1) (grownCap w (n + 1) c 36)) (w.drew.alloc (.cells (X.toArray ++ Builtin.zeroCells (Value.agg #[.string ⟨#[]⟩, .string ⟨#[]⟩]).cells (n + 1 - i) ++ Builtin.zeroCells (Value.agg #[.string ⟨#[]⟩, .string ⟨#[]⟩]).cells (grownCap w (n + 1) c 36 - (n + 1))) 36)) := fun ty => by
    have h := Lib.run_append_grow_zeros w 22 3 ty 36 i0 _ .i64 .i64 Tryd.underlying22 Tryd.underlying3 hi0 hz0 (some ⟨g, 0, none⟩) i c X hold (n + 1 - i) (by omega) (by omega) (by omega) (by omega) (by rw [hz2]; omega) (by rw [hz2, hik]; exact growslice_fits (by omega) (by omega))
    rw [hik] at h
    rw [hkk]
    exact h
  have hGn : n + 1 ≤ grownCap w (n + 1) c 36 := grownCap_ge w _ _ _
  have hGm : grownCap w (n + 1) c 36 ≤ maxLen := grownCap_le_maxLen w (n + 1) c 36 (by unfold maxLen; omega)
  obtain ⟨G, hG⟩ : ∃ G, G = grownCap w (n + 1) c 36 := ⟨_, rfl⟩
  rw [← hG] at hrz hGn hGm
  obtain ⟨ROW, hROW⟩ : ∃ ROW : List Value, ROW = (X.toArray ++ Builtin.zeroCells (Value.agg #[.string ⟨#[]⟩, .string ⟨#[]⟩]).cells (n + 1 - i) ++ Builtin.zeroCells (Value.agg #[.string ⟨#[]⟩, .string ⟨#[]⟩]).cells (G - (n + 1))).toList := ⟨_, rfl⟩
  have hRW : (X.toArray ++ Builtin.zeroCells (Value.agg #[.string ⟨#[]⟩, .string ⟨#[]⟩]).cells (n + 1 - i) ++ Builtin.zeroCells (Value.agg #[.string ⟨#[]⟩, .string ⟨#[]⟩]).cells (G - (n + 1))) = ROW.toArray := by rw [hROW]
  have hRl : ROW.length = G * 2 := by
    rw [hROW, Array.length_toList, Array.size_append, Array.size_append, zero_cells_len, zero_cells_len, List.size_toArray, HX.out]
    simp only [Value.cells, List.size_toArray, List.length_cons, List.length_nil]
    omega
  have hRt : ROW.take (i * 2) = X := by
    rw [hROW, Array.toList_append, Array.toList_append, List.append_assoc, List.take_append_of_le_length (by simp [HX.out]), List.take_of_length_le (by simp [HX.out])]
  rw [hRW] at hrz
  obtain ⟨W1, hW1⟩ : ∃ W1, W1 = w.drew.alloc (.cells ROW.toArray 36) := ⟨_, rfl⟩
  have hW1g : W1.heap[w.heap.size]? = some (.cells ROW.toArray 36 (0, 0)) := by rw [hW1]; exact heap_alloc_new w.drew _
  have hW1b : Below w.heap.size w W1 := by rw [hW1]; exact (Below.refl _ _).drew.alloc (Nat.le_refl _) _
  rw [← hW1] at hrz
  have hG63 : G ≤ 9223372036854775807 := by unfold maxLen at hGm; omega
  have e4 : ¬ G = i := by omega
  have e5 : ¬ G = i + 1 := by omega
  have e6 : (i : Int) ≤ (n : Int) + 1 := by omega
  have e7 : (c : Int) < (n : Int) + 1 := by omega
  have e8 : IntKind.i64.wrap ((i : Int) + 1) = (i : Int) + 1 := by rw [IntKind.wrap_i64]; omega
  have e9 : ((i : Int) + 1).toNat = i + 1 := by omega
  have mixed : Tryd.prog.follows Departure.mixedOrders = true := by kernel_rfl
  have e10 : (0 : Int) ≤ (i : Int) + 1 := by omega
  have m1 : Nat.min 1 (n + 1 - i) = 1 := Nat.min_eq_left (by omega)
  have m2 : Nat.min (n - i) (n + 1 - (i + 1)) = n - i := Nat.min_eq_left (by omega)
  have HRZ := Lib.hid hrz
  have HR1 := Lib.hid hW1g
  have HB1 := Lib.hid hW1b
  have HRT := Lib.hid hRt
  have HRL := Lib.hid hRl
  have HGM := Lib.hid hGm
  have hW1z : W1.heap.size = w.heap.size + 1 := by rw [hW1, World.size_alloc]; rfl
  have HZ1s := Lib.hid hW1z
  clear hW1z
  clear hrz hW1g hW1b hRt hRl hRW hROW hold hik hkk hG hW1 hGm
  go_enter Tryd.func53, Tryd.ntmps53
  go_wp2_with (first
    | (at_builtin; refine Lib.wpList_append_run _ rfl _ _ _ _ rfl _ _ rfl rfl _ _ (HRZ.out _) ?_)
    | (refine wpList_copy_wide (o := ⟨some 45, _, _, _, _, _⟩) rfl (.tmp 43) (.tmp 44) 22 22 rfl 36 i0 Tryd.underlying22 hi0 _ _ _ _ _ _ rfl rfl w.heap.size (i * 2) ROW 36 HR1.out [.string f.1, .string f.2] (by rw [hz1, m1]; rfl) rfl ⟨vb, 0, none⟩ rfl (fun j x hj => (HB1.out.cell (by rw [add_block]; exact hvl)).trans (HVC.out j x hj)) (by rw [HRL.out]; simp; omega) (by simp [Value.oneCell']) ?_; intro w2 hr2 hg2))
  have hs2 : ∀ j v, Z[j]? = some v → w2.drew.cell? ((⟨g, i * 2, none⟩ : Addr).add j) = some v := fun j v hj => by
    rw [Addr.add_lit]
    exact hg2.cell ((HB1.out.cell hgl).trans (HZ1.out j v hj)) (by simp; omega)
  have hl2 : (splice ROW (i * 2) [Value.string f.1, Value.string f.2]).length = G * 2 := by rw [length_splice _ _ _ (by rw [HRL.out]; simp; omega), HRL.out]
  have hf2 : (i + 1) * 2 + Z.length ≤ (splice ROW (i * 2) [Value.string f.1, Value.string f.2]).length := by rw [hl2, HZ.out]; omega
  have HS2 := Lib.hid hs2
  have HL2 := Lib.hid hl2
  clear hs2 hl2
  go_region_law_o (refine step_copy_wide rfl (.tmp 50) (.tmp 53) 22 22 rfl 36 i0 Tryd.underlying22 hi0 (some ⟨w.heap.size, (i + 1) * 2, none⟩) (some ⟨g, i * 2, none⟩) (n + 1 - (i + 1)) (G - (i + 1)) (n - i) (c - i) (by simp [Act.eval, Act.put]) (by simp [Act.eval, Act.put]) w.heap.size ((i + 1) * 2) (splice ROW (i * 2) [.string f.1, .string f.2]) 36 hr2.out Z (by rw [hz1, m2]; exact HZ.out) rfl ⟨g, i * 2, none⟩ rfl HS2.out hf2 hZo ?_; intro w3 hr3 hg3)
  go_wp2
  go_ret
  refine ⟨_, _, rfl, own_shut hB hr3.out hGn HGM.out ?_ ?_, ?_⟩
  · rw [length_splice _ _ _ hf2, HL2.out]
  · rw [show (i + 1) * 2 = i * 2 + 2 from by omega]
    exact splice_fill ROW X [.string f.1, .string f.2] Z (i * 2) 2 ((n + 1) * 2) HX.out rfl HRT.out (by rw [HZ.out]; omega) (by rw [HRL.out]; omega)
  · have hz1 : W1.heap.size = w.heap.size + 1 := HZ1s.out
    exact (((HB1.out.mono hB).grown hg2 (by omega) (by intro k e; cases e; exact hB)).drew).grown hg3 (by have := hg2.size; show B ≤ w2.heap.size; omega) (by intro k e; cases e; exact hB)
theorem insert_any (l : List FileB) (f : FileB) (i : Nat) (A : Option Addr) (c B vb : Nat) (w : World)
    (hown : w.ownsRow B 36 2 (.slice A l.length c) l.length (fcells l)) (hv : Blk w vb 36 #[.string f.1, .string f.2]) (hvb : ∀ a, A = some a → a.block ≠ vb) (hB : B ≤ w.heap.size) (hi : i ≤ l.length) (hn : l.length ≤ 1000) :
    Calls Tryd.prog 53 #[.slice A l.length c, .int .i64 i, .slice (some ⟨vb, 0, none⟩) 1 1] w fun e w' => ∃ (A' : Option Addr) (cap : Nat), e = .returned (.slice A' (l.length + 1) cap) ∧
      w'.ownsRow B 36 2 (.slice A' (l.length + 1) cap) (l.length + 1) (fcells (l.take i ++ f :: l.drop i)) ∧ Below B w w' := by
  by_cases hin : i = l.length
  · exact insert_end l f i A c B vb w hown hv hvb hB hi hn hin
  · by_cases hroom : l.length + 1 ≤ c
    · exact insert_room l f i A c B vb w hown hv hvb hB hi hn hin hroom
    · exact insert_grow l f i A c B vb w hown hv hvb hB hi hn hin hroom
end Go.Proofs.YtjpaajpjajoijaaDoor
