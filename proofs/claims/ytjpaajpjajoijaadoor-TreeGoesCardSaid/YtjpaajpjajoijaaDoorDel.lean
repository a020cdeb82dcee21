/- slices.DeleteFunc with the predicate of tree.Drop. -/
import Derived.Test.YtjpaajpjajoijaaDoorSearch
import Derived.Test.YtjpaajpjajoijaaDoorGet
namespace Go.Proofs.YtjpaajpjajoijaaDoor
set_option linter.unusedVariables false
open Go.RowKit
/-- The predicate of tree.Drop: it reads the path in its box. -/
theorem droppred_any (f : FileB) (p : ByteArray) (b : Nat) (w : World) (hc : w.cell? ⟨b, 0, none⟩ = some (.string p)) :
    Calls Tryd.prog 50 #[.agg #[.string f.1, .string f.2], .pointer (some ⟨b, 0, none⟩)] w fun e w' => e = .returned (.bool (isP p f)) ∧ Below w.heap.size w w' := by
  have hb := World.block_lt_of_cell? _ _ hc
  have k0 : (w.alloc (.cells #[.string f.1, .string f.2] 36)).cell? ⟨b, 0, none⟩ = some (.string p) := (World.cell?_alloc_lt w _ ⟨b, 0, none⟩ hb).trans hc
  unfold isP
  clear hc
  go_enter Tryd.func50, Tryd.ntmps50
  go_wp2
  go_ret
  exact ⟨rfl, (Below.refl _ _).alloc (Nat.le_refl _) _⟩
/-- The place that IndexFunc tells. -/
def FirstAt (l : List FileB) (p : ByteArray) (e : Ending) : Prop :=
  ∃ i : Int, e = .returned (.int .i64 i) ∧ ((i = -1 ∧ l.find? (isP p) = none) ∨ ∃ (k : Nat) (h : k < l.length), i = k ∧ (l.take k).find? (isP p) = none ∧ isP p (l[k]'h) = true)
set_option maxHeartbeats 1000000 in
set_option maxRecDepth 100000 in
theorem dropIndex_any (l : List FileB) (p : ByteArray) (A : Option Addr) (c b : Nat) (w : World) (hF : Files w w.heap.size A l) (hn : l.length ≤ 4611686018427387904) (hb : w.cell? ⟨b, 0, none⟩ = some (.string p)) :
    Calls Tryd.prog 64 #[.slice A l.length c, .func (.func 50) #[] #[.pointer (some ⟨b, 0, none⟩)]] w fun e w' => FirstAt l p e ∧ Below w.heap.size w w' := by
  have hbl := World.block_lt_of_cell? _ _ hb
  have HF := Lib.hid hF
  have HBC := Lib.hid hb
  clear hF hb
  go_enter Tryd.func64, Tryd.ntmps64
  go_wp2
  go_loopw [5, 8] (fun _ i wr => ∃ k : Nat, k ≤ l.length ∧ i = .int .i64 k ∧ Hid ((l.take k).find? (isP p) = none) ∧ Below w.heap.size w wr) (fun _ i _ => l.length - (intOf i).toNat)
  case atStart => exact ⟨0, by omega, rfl, Lib.hid rfl, Below.refl _ _⟩
  case round =>
    obtain ⟨k, hk, rfl, hh, hB⟩ := hrel
    by_cases hlt : k < l.length
    · obtain ⟨a, rfl, hab, hc⟩ := (HF.out.below hB (Nat.le_refl _)) (by omega)
      obtain ⟨c1, c2⟩ := hc k l[k] (List.getElem?_eq_getElem hlt)
      have hy := find_take_none hlt hh.out
      have hno := find_take_succ hlt hh.out
      have hbw : wr.cell? ⟨b, 0, none⟩ = some (.string p) := (hB.cell (p := ⟨b, 0, none⟩) hbl).trans HBC.out
      have hpr := droppred_any l[k] p b wr hbw
      have hfl : l[k] = l[k] := rfl
      obtain ⟨f, hf⟩ : ∃ f, f = l[k] := ⟨_, rfl⟩
      rw [← hf] at c1 c2 hy hno hpr
      obtain ⟨q, hq⟩ : ∃ q, q = isP p f := ⟨_, rfl⟩
      rw [← hq] at hy hno hpr
      have HY := Lib.hid hy
      have HNO := Lib.hid hno
      have HPR := Lib.hid hpr
      have HFE := Lib.hid hf
      have HQP := Lib.hid hq
      have hsz := hB.size
      clear hf hc hy hno hpr hbw hq hfl
      cases q with
      | true =>
        have HR := Lib.hid (HY.out rfl)
        go_wp2_with (go_at_call 50; (with_reducible refine HPR.out.mono ?_); rintro e w1 ⟨rfl, b1⟩)
        go_ret
        exact ⟨⟨k, rfl, .inr ⟨k, hlt, rfl, hh.out, by rw [← HFE.out]; exact HQP.out.symm⟩⟩, hB.trans (b1.mono hsz)⟩
      | false =>
        have HR := Lib.hid (HNO.out rfl)
        go_wp2_with (go_at_call 50; (with_reducible refine HPR.out.mono ?_); rintro e w1 ⟨rfl, b1⟩)
        go_roundw
        case rel => exact ⟨k + 1, by omega, by go_num, HR, hB.trans (b1.mono hsz)⟩
        case measure => simp [intOf]; omega
    · have hfin : l.find? (isP p) = none := by
        have h5 := hh.out
        rwa [List.take_of_length_le (by omega)] at h5
      have HFI := Lib.hid hfin
      clear hfin
      go_wp2
      go_ret
      exact ⟨⟨-1, rfl, .inl ⟨rfl, HFI.out⟩⟩, hB⟩
theorem splice_take {α : Type} (L : List α) (off : Nat) (cs : List α) (h : off + cs.length ≤ L.length) : (splice L off cs).take off = L.take off := by
  apply List.ext_getElem?
  intro j
  rw [List.getElem?_take, List.getElem?_take, splice_get _ _ _ h]
  by_cases h1 : j < off
  · simp [h1]
  · simp [h1]
theorem splice_take_end {α : Type} (L : List α) (off : Nat) (cs : List α) (h : off + cs.length ≤ L.length) : (splice L off cs).take (off + cs.length) = L.take off ++ cs := by
  have hl : (L.take off).length = off := by rw [List.length_take]; omega
  unfold splice
  rw [← List.append_assoc, List.take_append_of_le_length (by rw [List.length_append, hl]; exact Nat.le_refl _), List.take_of_length_le (by rw [List.length_append, hl]; exact Nat.le_refl _)]
/-- Files that are kept. -/
def keptL (l : List FileB) (p : ByteArray) : List FileB := l.filter fun f => !(isP p f)
theorem kept_none {l : List FileB} {p : ByteArray} (h : l.find? (isP p) = none) : keptL l p = l := by
  unfold keptL
  rw [List.filter_eq_self]
  intro f hf
  have := List.find?_eq_none.1 h f hf
  simpa using this
set_option maxHeartbeats 4000000 in
set_option maxRecDepth 100000 in
theorem deleteFunc_any (l : List FileB) (p : ByteArray) (A : Option Addr) (c B b : Nat) (w : World) (hown : w.ownsRow B 36 2 (.slice A l.length c) l.length (fcells l)) (hBw : B ≤ w.heap.size)
    (hb : w.cell? ⟨b, 0, none⟩ = some (.string p)) (hbB : b < B) (hn : l.length ≤ 1000) :
    Calls Tryd.prog 48 #[.slice A l.length c, .func (.func 50) #[] #[.pointer (some ⟨b, 0, none⟩)]] w fun e w' => ∃ (A' : Option Addr) (cap : Nat), e = .returned (.slice A' (keptL l p).length cap) ∧
      w'.ownsRow B 36 2 (.slice A' (keptL l p).length cap) (keptL l p).length (fcells (keptL l p)) ∧ Below B w w' := by
  obtain ⟨i0, hi0, hz0, hz1, hz2⟩ := info_parts info36p
  have hix := dropIndex_any l p A c b w (Files.of_own hown) (by omega) hb
  by_cases hfi : l.find? (isP p) = none
  · rw [kept_none hfi]
    have HIX := Lib.hid hix
    have HFI := Lib.hid hfi
    have HOWN := Lib.hid hown
    clear hix hfi hown hb
    go_enter Tryd.func48, Tryd.ntmps48
    go_wp2_with (go_at_call 64; (with_reducible refine HIX.out.mono ?_); rintro e w1 ⟨⟨ii, rfl, hor⟩, b1⟩; obtain rfl : ii = -1 := by (rcases hor with ⟨h, _⟩ | ⟨k, hk, _, _, h⟩; exact h; exact absurd h (List.find?_eq_none.1 HFI.out _ (List.getElem_mem hk))))
    go_ret
    exact ⟨_, _, rfl, own_below HOWN.out b1, b1.mono hBw⟩
  · have h0 : 0 < l.length := by
      cases l with
      | nil => exact absurd rfl hfi
      | cons _ _ => simp
    obtain ⟨g, cur0, rfl, hBg, hg0, hnc, hcm, hcl0, htk0⟩ := own_open hown h0
    have hgl : g < w.heap.size := (Array.getElem?_eq_some_iff.1 hg0).1
    have hbl : b < w.heap.size := by omega
    obtain ⟨n, hln⟩ : ∃ n, n = l.length := ⟨_, rfl⟩
    rw [← hln] at hix hn h0 hnc htk0
    have hcl0' : ∀ q, q < n * 2 → cur0[q]? = (fcells l)[q]? := fun q hq => take_get htk0 q hq
    have HIX := Lib.hid hix
    have HFI := Lib.hid hfi
    have HG0 := Lib.hid hg0
    have HB := Lib.hid hb
    have HLN := Lib.hid hln
    have HC0 := Lib.hid hcl0'
    have HTK := Lib.hid htk0
    have HCL0 := Lib.hid hcl0
    have HK : ∀ j, Hid (∀ (h : j < l.length), keptL (l.take (j + 1)) p = if isP p l[j] then keptL (l.take j) p else keptL (l.take j) p ++ [l[j]]) := fun j => Lib.hid fun h => by
      unfold keptL
      rw [filter_take_succ l _ j h]
      cases isP p l[j] <;> simp
    clear hix hfi hown hb hg0 hln hcl0' htk0 hcl0
    rw [HLN.out.symm]
    obtain ⟨R, hR⟩ : ∃ R, R = keptL l p := ⟨_, rfl⟩
    rw [← hR]
    have HR := Lib.hid hR
    clear hR
    go_enter Tryd.func48, Tryd.ntmps48
    go_wp2_with (go_at_call 64; (with_reducible refine HIX.out.mono ?_); rintro e w1 ⟨⟨ii, rfl, hor⟩, b1⟩; obtain ⟨k, hkn, rfl, hkk⟩ : ∃ k : Nat, k < n ∧ ii = (k : Int) ∧ Hid ((l.take k).find? (isP p) = none ∧ ∃ h : k < l.length, isP p (l[k]'h) = true) := (by (rcases hor with ⟨_, h⟩ | ⟨k, hk, h1, h2, h3⟩; exact absurd h HFI.out; exact ⟨k, Nat.lt_of_lt_of_eq hk HLN.out.symm, h1, Lib.hid ⟨h2, hk, h3⟩⟩)); have e0 : ((k : Int) == -1) = false := beq_eq_false_iff_ne.2 (by omega))
    clear hor
    have hk1 : (keptL (l.take (k + 1)) p) = l.take k := by
      obtain ⟨h1, h2, h3⟩ := hkk.out
      rw [(HK k).out h2, if_pos h3, kept_none h1]
    have HG1 : Hid (w1.heap[g]? = some (.cells cur0.toArray 36 (0, 0))) := Lib.hid ((b1.block g hgl).trans HG0.out)
    have hkt : cur0.take (k * 2) = fcells (keptL (l.take (k + 1)) p) := by
      rw [hk1, ← fcells_take, ← HTK.out, List.take_take]
      congr 1
      omega
    have HKT := Lib.hid hkt
    have HK1 : Hid (k = (keptL (l.take (k + 1)) p).length) := Lib.hid (by rw [hk1, List.length_take, ← HLN.out]; omega)
    have HB1 : Below B w w1 := b1.mono hBw
    clear hkt hk1 b1
    go_loopw [5, 6] (fun s5 s6 wr => ∃ (i j : Nat) (cur : List Value), i < j ∧ j ≤ n ∧ s5 = .int .i64 i ∧ s6 = .int .i64 j ∧ Hid (i = (keptL (l.take j) p).length) ∧
      Hid (wr.heap[g]? = some (.cells cur.toArray 36 (0, 0))) ∧ Hid (cur.length = c * 2) ∧ Hid (cur.take (i * 2) = fcells (keptL (l.take j) p)) ∧ Hid (∀ q, j * 2 ≤ q → q < n * 2 → cur[q]? = (fcells l)[q]?) ∧ Below B w wr) (fun _ s6 _ => n - (intOf s6).toNat)
    case atStart => exact ⟨k, k + 1, cur0, by omega, by omega, rfl, by go_num, HK1, HG1, HCL0, HKT, Lib.hid (fun q _ hq => HC0.out q hq), HB1⟩
    case round =>
      clear HK1 HG1 HKT HB1 hkk
      obtain ⟨i, j, cur, hij, hjn, rfl, rfl, hil, hg, hcl, htk, htl, hBr⟩ := hrel
      have hszr := hBr.size
      have hglr : g < wr.heap.size := (Array.getElem?_eq_some_iff.1 hg.out).1
      by_cases hlt : j < n
      · have hjl : j < l.length := by rw [← HLN.out]; exact hlt
        obtain ⟨f1, f2⟩ := fcells_get l j l[j] (List.getElem?_eq_getElem hjl)
        have c1 : wr.cell? ⟨g, j * 2, none⟩ = some (.string l[j].1) := by rw [cell_of_row wr g _ _ 36 (0, 0) hg.out, List.getElem?_toArray, htl.out _ (by omega) (by omega), f1]
        have c2 : wr.cell? ⟨g, j * 2 + 1, none⟩ = some (.string l[j].2) := by rw [cell_of_row wr g _ _ 36 (0, 0) hg.out, List.getElem?_toArray, htl.out _ (by omega) (by omega), f2]
        have hstep := (HK j).out hjl
        obtain ⟨f, hf⟩ : ∃ f, f = l[j] := ⟨_, rfl⟩
        rw [← hf] at c1 c2 hstep
        have hpr := droppred_any f p b (wr.alloc (.cells #[.string f.1, .string f.2] 36)) ((hBr.alloc (by omega) _).cell (p := ⟨b, 0, none⟩) hbB ▸ HB.out)
        obtain ⟨q, hq⟩ : ∃ q, q = isP p f := ⟨_, rfl⟩
        rw [← hq] at hpr hstep
        have HPR := Lib.hid hpr
        have hnb : (Blk (wr.alloc (.cells #[.string f.1, .string f.2] 36)) wr.heap.size 36 #[.string f.1, .string f.2]) := Blk.new _ _ _
        have HNB := Lib.hid hnb
        have e1 : (0 : Int) ≤ (j : Int) := by omega
        have e2 : (j : Int) < (n : Int) := by omega
        have e3 : (0 : Int) ≤ (i : Int) := by omega
        have e4 : (i : Int) < (n : Int) := by omega
        clear f1 f2 hf hq hpr hnb
        cases q with
        | true =>
          have HST := Lib.hid hstep
          clear hstep
          go_wp2_with (go_at_call 50; (with_reducible refine HPR.out.mono ?_); rintro e w2 ⟨rfl, b2⟩)
          go_roundw
          case rel =>
            exact ⟨i, j + 1, cur, by omega, by omega, rfl, by go_num, Lib.hid (by rw [HST.out]; exact hil.out), Lib.hid ((b2.block g (by simp; omega)).trans ((Below.heap_alloc _ _ _ hglr).trans hg.out)), hcl, Lib.hid (by rw [HST.out]; exact htk.out), Lib.hid (fun q h1 h2 => htl.out q (by omega) h2), (hBr.alloc (by omega) _).trans (b2.mono (by simp; omega))⟩
          case measure => simp [intOf]; omega
        | false =>
          have HST := Lib.hid hstep
          have hfit : i * 2 + [Value.string f.1, Value.string f.2].length ≤ cur.length := by rw [hcl.out]; simp; omega
          have hsi : (Tryd.prog.info? 36).map (·.size) = some [Value.string f.1, Value.string f.2].length := by rw [hi0]; simp [hz1]
          clear hstep
          go_wp2_with (first
            | (go_at_call 50; (with_reducible refine HPR.out.mono ?_); rintro e w2 ⟨rfl, b2⟩; have hb2 := HNB.out.below b2 (by simp); have k1 : w2.cell? ⟨wr.heap.size, 0, none⟩ = some (.string f.1) := (hb2.cell 0).trans rfl; have k2 : w2.cell? ⟨wr.heap.size, 1, none⟩ = some (.string f.2) := (hb2.cell 1).trans rfl; have hg2 : Hid (w2.heap[g]? = some (.cells cur.toArray 36 (0, 0))) := Lib.hid ((b2.block g (by simp; omega)).trans ((Below.heap_alloc _ _ _ hglr).trans hg.out)); clear hb2)
            | (refine wpList_store_wide (op := ⟨none, .store 36 (.tmp 33) (.tmp 32), _, _, _, _⟩) rfl 36 (.tmp 33) (.tmp 32) rfl g (i * 2) [.string f.1, .string f.2] _ rfl rfl rfl cur 36 hg2.out hsi hfit (by simp [Value.oneCell']) ?_; intro w3 hg3 hgr3))
          go_roundw
          case rel => exact ⟨i + 1, j + 1, splice cur (i * 2) [.string f.1, .string f.2], by omega, by omega, by go_num, by go_num, Lib.hid (by rw [HST.out, if_neg (by simp), List.length_append, ← hil.out]; rfl), hg3, Lib.hid (by rw [length_splice _ _ _ hfit]; exact hcl.out), Lib.hid (by
            rw [HST.out, if_neg (by simp), fcells_append, fcells_one, ← htk.out, show (i + 1) * 2 = i * 2 + [Value.string f.1, Value.string f.2].length from by simp; omega]
            exact splice_take_end _ _ _ hfit), Lib.hid (fun q h1 h2 => by
            rw [splice_get _ _ _ hfit, if_neg (by omega), if_neg (by simp; omega)]
            exact htl.out q (by omega) h2), ((hBr.alloc (by omega) _).trans (b2.mono (by simp; omega))).grown hgr3 (by have := b2.size; simp at this; omega) (by intro k e; cases e; exact hBg)⟩
          case measure => simp [intOf]; omega
      · have hjn2 : j = n := by omega
        subst hjn2
        have hfin : l.take j = l := List.take_of_length_le (by rw [HLN.out]; exact Nat.le_refl _)
        have hil2 : i = R.length := by rw [HR.out, ← hfin]; exact hil.out
        have htk2 : cur.take (i * 2) = fcells R := by rw [HR.out, htk.out, hfin]
        have HTK2 := Lib.hid htk2
        have HIL := Lib.hid hil2
        have hzl : (Builtin.zeroCells (Value.agg #[.string ⟨#[]⟩, .string ⟨#[]⟩]).cells (j - i)).toList.length = (j - i) * 2 := by rw [Array.length_toList]; simp [Builtin.zeroCells, Value.cells]
        have hfit : i * 2 + (Builtin.zeroCells (Value.agg #[.string ⟨#[]⟩, .string ⟨#[]⟩]).cells (j - i)).toList.length ≤ cur.length := by rw [hzl, hcl.out]; omega
        have e1 : (0 : Int) ≤ (i : Int) := by omega
        have e2 : (i : Int) ≤ (j : Int) := by omega
        have e3 : ¬ c = i := by omega
        have e4 : (i : Int) ≤ (c : Int) := by omega
        have HFIT := Lib.hid hfit
        have hf2 : i * 2 + (j - i) * 2 ≤ cur.length := by rw [hcl.out]; omega
        have HF2 := Lib.hid hf2
        have H1 : ∀ v ∈ (Builtin.zeroCells (Value.agg #[.string ⟨#[]⟩, .string ⟨#[]⟩]).cells (j - i)).toList, v.oneCell' = true := by
          intro v hv
          unfold Builtin.zeroCells at hv
          simp only [Array.toList_map, List.mem_map] at hv
          obtain ⟨q, _, rfl⟩ := hv
          rcases Nat.mod_two_eq_zero_or_one q with h2 | h2
          · simp [Value.cells, h2, Value.oneCell']
          · simp [Value.cells, h2, Value.oneCell']
        have HH1 := Lib.hid H1
        clear hfin hil2 htk2 hzl hfit H1 hil htk hf2
        go_wp2_with (refine wpList_clear_wide (o := ⟨none, .call ⟨.builtin .clear, #[.tmp 38], #[22]⟩, _, _, _, _⟩) rfl (.tmp 38) 22 rfl 36 i0 (.agg #[.string ⟨#[]⟩, .string ⟨#[]⟩]) Tryd.underlying22 hi0 hz0 _ (j - i) (c - i) rfl (by omega) g (i * 2) cur 36 hg.out rfl HF2.out HH1.out ?_; intro w3 hg3 hgr3)
        go_ret
        rw [← HIL.out]
        exact ⟨_, _, rfl, own_shut hBg hg3.out (by omega) hcm (by rw [length_splice _ _ _ HFIT.out]; exact hcl.out) (by rw [splice_take _ _ _ HFIT.out]; exact HTK2.out), hBr.grown hgr3 (by omega) (by intro k e; cases e; exact hBg)⟩
end Go.Proofs.YtjpaajpjajoijaaDoor
