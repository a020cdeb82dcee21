/- path.May: is a text a path? -/
import Derived.Test.YtjpaajpjajoijaaDoorSeq
namespace Go.Proofs.YtjpaajpjajoijaaDoor
set_option linter.unusedVariables false
open Go.RowKit Go.Shelf
attribute [local go_sem] Oper.semAt_some
/-- The three blocks that SplitSeq lays. -/
def seqWorld (s : ByteArray) (w : World) : World := ((w.alloc (.cells #[.string s] 9)).alloc (.cells #[.string ⟨#[47]⟩] 9)).alloc (.cells #[.int .i64 0] 3)
theorem seq80 (s : ByteArray) (w : World) :
    Calls Tryd.prog 80 #[.string s, .string ⟨#[47]⟩, .int .i64 0] w fun e w' => e = .returned (.func (.func 95) #[] #[.pointer (some ⟨w.heap.size + 1, 0, none⟩), .pointer (some ⟨w.heap.size, 0, none⟩), .pointer (some ⟨w.heap.size + 1 + 1, 0, none⟩)]) ∧ seqWorld s w = w' := by
  go_enter Tryd.func80, Tryd.ntmps80
  go_wp2
  go_ret
  exact ⟨rfl, rfl⟩
theorem seq59 (s : ByteArray) (w : World) :
    Calls Tryd.prog 59 #[.string s, .string ⟨#[47]⟩] w fun e w' => e = .returned (.func (.func 95) #[] #[.pointer (some ⟨w.heap.size + 1, 0, none⟩), .pointer (some ⟨w.heap.size, 0, none⟩), .pointer (some ⟨w.heap.size + 1 + 1, 0, none⟩)]) ∧ seqWorld s w = w' := by
  go_enter Tryd.func59, Tryd.ntmps59
  go_wp2_with (go_at_call 80; refine (seq80 _ _).mono ?_; rintro e w' ⟨rfl, rfl⟩)
  go_ret
  exact ⟨rfl, rfl⟩
theorem may_start (s : ByteArray) (w : World) : (seqWorld s ((w.alloc (Obj.cells #[Value.bool false] 4)).alloc (Obj.cells #[Value.int IntKind.i64 0] 3))).heap.size = w.heap.size + 5 ∧
    Below w.heap.size w (seqWorld s ((w.alloc (Obj.cells #[Value.bool false] 4)).alloc (Obj.cells #[Value.int IntKind.i64 0] 3))) ∧
    (seqWorld s ((w.alloc (Obj.cells #[Value.bool false] 4)).alloc (Obj.cells #[Value.int IntKind.i64 0] 3))).cell? ⟨w.heap.size, 0, none⟩ = some (.bool false) ∧
    (seqWorld s ((w.alloc (Obj.cells #[Value.bool false] 4)).alloc (Obj.cells #[Value.int IntKind.i64 0] 3))).frozen? ⟨w.heap.size, 0, none⟩ = false ∧
    (seqWorld s ((w.alloc (Obj.cells #[Value.bool false] 4)).alloc (Obj.cells #[Value.int IntKind.i64 0] 3))).cell? ⟨w.heap.size + 1, 0, none⟩ = some (.int .i64 (0 : Nat)) ∧
    (seqWorld s ((w.alloc (Obj.cells #[Value.bool false] 4)).alloc (Obj.cells #[Value.int IntKind.i64 0] 3))).frozen? ⟨w.heap.size + 1, 0, none⟩ = false ∧
    (seqWorld s ((w.alloc (Obj.cells #[Value.bool false] 4)).alloc (Obj.cells #[Value.int IntKind.i64 0] 3))).cell? ⟨w.heap.size + 1 + 1 + 1, 0, none⟩ = some (.string ⟨#[47]⟩) ∧
    (seqWorld s ((w.alloc (Obj.cells #[Value.bool false] 4)).alloc (Obj.cells #[Value.int IntKind.i64 0] 3))).cell? ⟨w.heap.size + 1 + 1, 0, none⟩ = some (.string s) ∧
    (seqWorld s ((w.alloc (Obj.cells #[Value.bool false] 4)).alloc (Obj.cells #[Value.int IntKind.i64 0] 3))).frozen? ⟨w.heap.size + 1 + 1, 0, none⟩ = false ∧
    (seqWorld s ((w.alloc (Obj.cells #[Value.bool false] 4)).alloc (Obj.cells #[Value.int IntKind.i64 0] 3))).cell? ⟨w.heap.size + 1 + 1 + 1 + 1, 0, none⟩ = some (.int .i64 0) := by
  unfold seqWorld
  have b0 := Blk.new w 4 #[Value.bool false]
  have b1 := Blk.new (w.alloc (.cells #[Value.bool false] 4)) 3 #[.int .i64 0]
  have b2 := Blk.new ((w.alloc (.cells #[Value.bool false] 4)).alloc (.cells #[.int .i64 0] 3)) 9 #[.string s]
  have b3 := Blk.new (((w.alloc (.cells #[Value.bool false] 4)).alloc (.cells #[.int .i64 0] 3)).alloc (.cells #[.string s] 9)) 9 #[.string ⟨#[47]⟩]
  have b4 := Blk.new ((((w.alloc (.cells #[Value.bool false] 4)).alloc (.cells #[.int .i64 0] 3)).alloc (.cells #[.string s] 9)).alloc (.cells #[.string ⟨#[47]⟩] 9)) 3 #[.int .i64 0]
  simp only [World.size_alloc] at b1 b2 b3 b4
  have b0 := (((b0.alloc (.cells #[.int .i64 0] 3)).alloc (.cells #[.string s] 9)).alloc (.cells #[.string ⟨#[47]⟩] 9)).alloc (.cells #[.int .i64 0] 3)
  have b1 := ((b1.alloc (.cells #[.string s] 9)).alloc (.cells #[.string ⟨#[47]⟩] 9)).alloc (.cells #[.int .i64 0] 3)
  have b2 := (b2.alloc (.cells #[.string ⟨#[47]⟩] 9)).alloc (.cells #[.int .i64 0] 3)
  have b3 := b3.alloc (.cells #[.int .i64 0] 3)
  refine ⟨by simp only [World.size_alloc], ?_, (b0.cell 0).trans rfl, b0.frozen 0, (b1.cell 0).trans rfl, b1.frozen 0, (b3.cell 0).trans rfl, (b2.cell 0).trans rfl, b2.frozen 0, (b4.cell 0).trans rfl⟩
  exact (((((Below.refl _ _).alloc (Nat.le_refl _) _).alloc (by simp) _).alloc (by simp only [World.size_alloc]; omega) _).alloc (by simp only [World.size_alloc]; omega) _).alloc (by simp only [World.size_alloc]; omega) _
set_option maxHeartbeats 1000000 in
set_option maxRecDepth 100000 in
theorem pmay_any (s : ByteArray) (w : World) (hs : s.size ≤ 1000000) :
    Calls Tryd.prog 27 #[.string s] w fun e w' => e = .returned (.bool (okPath s.data.toList)) ∧ Below w.heap.size w w' := by
  have hok : okPath s.data.toList = ((splitS s.data.toList).all okPart && decide ((splitS s.data.toList).length ≤ 16)) := rfl
  obtain ⟨p, hp⟩ : ∃ p, p = splitS s.data.toList := ⟨_, rfl⟩
  rw [← hp] at hok
  have hxl : ∀ x ∈ p, x.length ≤ 1000000 := fun x hx => by
    have := parts_small s.data.toList x (by rw [partsTo_eq, ← hp]; exact hx)
    have h2 : s.data.toList.length = s.size := rfl
    omega
  obtain ⟨ok, hke⟩ : ∃ ok, ok = okPath s.data.toList := ⟨_, rfl⟩
  rw [← hke] at hok ⊢
  have HP := Lib.hid hp
  have HOK := Lib.hid hok
  have HXL := Lib.hid hxl
  clear hok hke hxl hp
  refine (callsIn_wide (n := 4)).1 (callsIn_of_wp_marks Tryd.func27 rfl trivial ?_ rfl)
  simp only [Tryd.ntmps27, List.size_toArray, List.length_cons, List.length_nil, Nat.reduceAdd, Nat.reduceSub, Array.replicate_succ, Array.replicate_zero, List.push_toArray, List.append_toArray, List.nil_append, List.cons_append]
  gi_wp2_with (refine ⟨trivial, ?_⟩; gi_at_call 59; refine (callsIn_wide.2 (seq59 _ _)).mono ?_; rintro e w' ⟨rfl, rfl⟩)
  obtain ⟨W0, hW0⟩ : ∃ W0, seqWorld s ((w.alloc (Obj.cells #[Value.bool false] 4)).alloc (Obj.cells #[Value.int IntKind.i64 0] 3)) = W0 := ⟨_, rfl⟩
  obtain ⟨hz, hB0, cR, fR, cN, fN, c1, c2, f2, c3⟩ := may_start s w
  rw [hW0] at hz hB0 cR fR cN fN c1 c2 f2 c3 ⊢
  clear hW0
  refine range_split (s := s) (b1 := w.heap.size + 1 + 1 + 1) (b2 := w.heap.size + 1 + 1) (b3 := w.heap.size + 1 + 1 + 1 + 1) hs rfl c1 c2 f2 c3 (by omega) (by omega)
    (fun k W => k ≤ 16 ∧ Hid ((p.take k).all okPart = true) ∧ W.cell? ⟨w.heap.size + 1, 0, none⟩ = some (.int .i64 k) ∧ W.frozen? ⟨w.heap.size + 1, 0, none⟩ = false ∧ W.cell? ⟨w.heap.size, 0, none⟩ = some (.bool false) ∧ W.frozen? ⟨w.heap.size, 0, none⟩ = false ∧ Below w.heap.size w W)
    (fun W => Hid (ok = false) ∧ W.cell? ⟨w.heap.size, 0, none⟩ = some (.bool false) ∧ Below w.heap.size w W)
    ?keepI ?keepX ⟨by omega, Lib.hid rfl, cN, fN, cR, fR, hB0⟩
    (fun x => { tmps := #[.string s, undef, .pointer (some ⟨w.heap.size, 0, none⟩), .pointer (some ⟨w.heap.size + 1, 0, none⟩), .string x, .string s,
      .func (.func 95) #[] #[.pointer (some ⟨w.heap.size + 1 + 1 + 1, 0, none⟩), .pointer (some ⟨w.heap.size + 1 + 1, 0, none⟩), .pointer (some ⟨w.heap.size + 1 + 1 + 1 + 1, 0, none⟩)],
      .string x, undef, undef, undef, undef, undef, undef, undef, undef, undef], defers := [] }) ?assign ?body ?done ?stop
  case keepI =>
    rintro k W W' row ⟨i1, i2, i3, i4, i5, i6, i7⟩ hg hr
    have n0 : some w.heap.size ≠ row := fun e => by rcases hr _ e.symm with h | h <;> omega
    have n1 : some (w.heap.size + 1) ≠ row := fun e => by rcases hr _ e.symm with h | h <;> omega
    exact ⟨i1, i2, hg.cell i3 n1, (World.frozen?_of_block (hg.block _ (World.block_lt_of_cell? W _ i3) n1)).trans i4, hg.cell i5 n0, (World.frozen?_of_block (hg.block _ (World.block_lt_of_cell? W _ i5) n0)).trans i6,
      i7.grown hg i7.size (fun k e => by rcases hr _ e with h | h <;> omega)⟩
  case keepX =>
    rintro W W' row ⟨i1, i5, i7⟩ hg hr
    have n0 : some w.heap.size ≠ row := fun e => by rcases hr _ e.symm with h | h <;> omega
    exact ⟨i1, hg.cell i5 n0, i7.grown hg i7.size (fun k e => by rcases hr _ e with h | h <;> omega)⟩
  case assign =>
    intro l x W K hK
    gi_wp2
    exact hK
  case body =>
    rintro l k x W hlt ⟨i1, i2, i3, i4, i5, i6, i7⟩ hx
    rw [← HP.out] at hx
    obtain ⟨hkl, hxe⟩ := List.getElem?_eq_some_iff.1 hx
    have hpart : ∀ w, Calls Tryd.prog 60 #[.string ⟨x.toArray⟩] w fun e w' => e = .returned (.bool (okPart x)) ∧ Below w.heap.size w w' := fun w => by
      have hxl := HXL.out _ (List.getElem_mem hkl)
      rw [hxe] at hxl
      have := part_any ⟨x.toArray⟩ w (by unfold maxLen; show x.length ≤ _; omega)
      simpa using this
    have hyes := fun h => all_take_succ p okPart k hkl i2.out h
    have hno := all_cut p okPart k hkl
    rw [hxe] at hyes hno
    have HYES := Lib.hid hyes
    have HNO := Lib.hid hno
    have HPART := Lib.hid hpart
    clear hyes hno hpart hxe hx
    have hsame : (W.setCell ⟨w.heap.size + 1, 0, none⟩ (.int .i64 ((k : Int) + 1))).cell? ⟨w.heap.size + 1, 0, none⟩ = some (.int .i64 ((k : Int) + 1)) := World.cell?_setCell_same' _ _ _ (by rw [i3]; rfl)
    have hres : (W.setCell ⟨w.heap.size + 1, 0, none⟩ (.int .i64 ((k : Int) + 1))).cell? ⟨w.heap.size, 0, none⟩ = some (.bool false) := (World.cell?_setCell_other _ _ _ _ (by simp)).trans i5
    have hkeep : ∀ b, b ≠ w.heap.size + 1 → (W.setCell ⟨w.heap.size + 1, 0, none⟩ (.int .i64 ((k : Int) + 1))).heap[b]? = W.heap[b]? := fun b hb => Below.heap_setCell W ⟨w.heap.size + 1, 0, none⟩ _ b hb
    have hBel : Below w.heap.size w (W.setCell ⟨w.heap.size + 1, 0, none⟩ (.int .i64 ((k : Int) + 1))) := i7.setCell (p := ⟨w.heap.size + 1, 0, none⟩) (by simp) _
    have hfr : (W.setCell ⟨w.heap.size + 1, 0, none⟩ (.int .i64 ((k : Int) + 1))).frozen? ⟨w.heap.size + 1, 0, none⟩ = false := by rw [World.frozen?_setCell]; exact i4
    have hfr0 : (W.setCell ⟨w.heap.size + 1, 0, none⟩ (.int .i64 ((k : Int) + 1))).frozen? ⟨w.heap.size, 0, none⟩ = false := by rw [World.frozen?_setCell]; exact i6
    have hsz1 : (W.setCell ⟨w.heap.size + 1, 0, none⟩ (.int .i64 ((k : Int) + 1))).heap.size = W.heap.size := by show (W.heap.modify _ _).size = _; rw [Array.size_modify]
    obtain ⟨W2, hW2⟩ : ∃ W2, W.setCell ⟨w.heap.size + 1, 0, none⟩ (.int .i64 ((k : Int) + 1)) = W2 := ⟨_, rfl⟩
    rw [hW2] at hsame hres hkeep hBel hfr hfr0 hsz1
    have HW2 := Lib.hid hW2
    have hlk : ∀ b, b = w.heap.size + 1 + 1 + 1 ∨ b = w.heap.size + 1 + 1 ∨ b = w.heap.size + 1 + 1 + 1 + 1 ∨ b = W0.heap.size ∨ b = W0.heap.size + 1 → ∀ w', Below W2.heap.size W2 w' → w'.heap[b]? = W.heap[b]? := fun b hb w' hw => by
      refine (hw.block b ?_).trans (hkeep b ?_)
      · rcases hb with rfl | rfl | rfl | rfl | rfl <;> omega
      · rcases hb with rfl | rfl | rfl | rfl | rfl <;> omega
    have hkf : ∀ w', Below W2.heap.size W2 w' → KeepsFor W0.heap.size (w.heap.size + 1 + 1 + 1) (w.heap.size + 1 + 1) (w.heap.size + 1 + 1 + 1 + 1) W w' := fun w' hw =>
      ⟨⟨hlk _ (by omega) w' hw, hlk _ (by omega) w' hw, hlk _ (by omega) w' hw⟩, hlk _ (by omega) w' hw, hlk _ (by omega) w' hw⟩
    have hks : ∀ w' v, Below W2.heap.size W2 w' → KeepsFor W0.heap.size (w.heap.size + 1 + 1 + 1) (w.heap.size + 1 + 1) (w.heap.size + 1 + 1 + 1 + 1) W (w'.setCell ⟨w.heap.size, 0, none⟩ v) := fun w' v hw => by
      have h := hkf w' hw
      have e : ∀ b, b ≠ w.heap.size → (w'.setCell ⟨w.heap.size, 0, none⟩ v).heap[b]? = w'.heap[b]? := fun b hb => Below.heap_setCell w' ⟨w.heap.size, 0, none⟩ v b hb
      exact ⟨⟨(e _ (by omega)).trans h.1.1, (e _ (by omega)).trans h.1.2.1, (e _ (by omega)).trans h.1.2.2⟩, (e _ (by omega)).trans h.2.1, (e _ (by omega)).trans h.2.2⟩
    have HKF := Lib.hid hkf
    have HKS := Lib.hid hks
    have hb2 : ∀ w', Below W2.heap.size W2 w' → w'.cell? ⟨w.heap.size, 0, none⟩ = some (.bool false) ∧ w'.frozen? ⟨w.heap.size, 0, none⟩ = false ∧ w'.cell? ⟨w.heap.size + 1, 0, none⟩ = some (.int .i64 ((k : Int) + 1)) ∧ w'.frozen? ⟨w.heap.size + 1, 0, none⟩ = false ∧ Below w.heap.size w w' := fun w' hw =>
      ⟨(hw.cell (p := ⟨w.heap.size, 0, none⟩) (by show w.heap.size < _; omega)).trans hres, (hw.frozen (p := ⟨w.heap.size, 0, none⟩) (by show w.heap.size < _; omega)).trans hfr0,
        (hw.cell (p := ⟨w.heap.size + 1, 0, none⟩) (by show w.heap.size + 1 < _; omega)).trans hsame, (hw.frozen (p := ⟨w.heap.size + 1, 0, none⟩) (by show w.heap.size + 1 < _; omega)).trans hfr, hBel.trans (hw.mono (by omega))⟩
    have HB2 := Lib.hid hb2
    clear hkeep hW2 hlk hkf hks hb2 hsame hres hfr hfr0
    by_cases hk16 : k < 16
    · cases ho : okPart x with
      | true =>
        rw [ho] at HYES HPART
        clear ho HNO
        gi_wp2_with fail
        rw [HW2.out]
        refine ⟨trivial, ?_⟩
        refine (CallsIn.inRound l (callsIn_wide.2 (HPART.out _))).mono ?_
        rintro e w' ⟨rfl, hw⟩
        have h5 := HB2.out w' hw
        have h6 := HKF.out w' hw
        gi_wp2
        exact ⟨h6, by omega, Lib.hid (HYES.out (by first | rfl | trivial)), h5.2.2.1, h5.2.2.2.1, h5.1, h5.2.1, h5.2.2.2.2⟩
      | false =>
        rw [ho] at HNO HPART
        clear ho HYES
        gi_wp2_with fail
        rw [HW2.out]
        refine ⟨trivial, ?_⟩
        refine (CallsIn.inRound l (callsIn_wide.2 (HPART.out _))).mono ?_
        rintro e w' ⟨rfl, hw⟩
        obtain ⟨h51, h52, h53, h54, h55⟩ := HB2.out w' hw
        have h6 := HKS.out w' (.bool false) hw
        have hno := HNO.out (by first | rfl | trivial)
        have HNO2 := Lib.hid hno
        have H6 := Lib.hid h6
        clear hno h6
        gi_wp2
        exact ⟨H6.out, Lib.hid (by rw [HOK.out, HNO2.out]; rfl), World.cell?_setCell_same' _ _ _ (by rw [h51]; rfl), h55.setCell (p := ⟨w.heap.size, 0, none⟩) (Nat.le_refl _) _⟩
    · obtain ⟨h51, h52, h53, h54, h55⟩ := HB2.out W2 (Below.refl _ _)
      have H6 := Lib.hid (HKS.out W2 (.bool false) (Below.refl _ _))
      have hlong : ok = false := by
        rw [HOK.out, decide_eq_false (by omega), Bool.and_false]
      have HL := Lib.hid hlong
      clear hlong
      gi_wp2
      rw [HW2.out]
      refine ⟨trivial, ?_⟩
      gi_wp2
      exact ⟨H6.out, HL, World.cell?_setCell_same' _ _ _ (by rw [h51]; rfl), h55.setCell (p := ⟨w.heap.size, 0, none⟩) (Nat.le_refl _) _⟩
  case done =>
    rintro W ⟨i1, i2, i3, i4, i5, i6, i7⟩ hK
    have hyes : ok = true := by
      have h2 := i2.out
      rw [← HP.out, List.take_of_length_le (Nat.le_refl _)] at h2
      rw [HOK.out, h2, Bool.true_and, decide_eq_true_iff, HP.out]
      exact i1
    have HY := Lib.hid hyes
    clear hyes
    gi_wp2
    have hne : W0.heap.size ≠ w.heap.size := by omega
    have hK' : (W.setCell ⟨w.heap.size, 0, none⟩ (.bool true)).heap[W0.heap.size]? = some (.deferred (some [])) := (Below.heap_setCell W ⟨w.heap.size, 0, none⟩ _ _ hne).trans hK
    refine ⟨by simp, .inl ⟨_, _, rfl, run_takeDeferred hK', ?_⟩⟩
    have hc5 : ((W.setCell ⟨w.heap.size, 0, none⟩ (.bool true)).putObj W0.heap.size (.deferred none)).cell? ⟨w.heap.size, 0, none⟩ = some (.bool true) :=
      (World.cell?_of_block (World.putObj_heap_other hne.symm)).trans (World.cell?_setCell_same' W ⟨w.heap.size, 0, none⟩ (.bool true) (by rw [i5]; rfl))
    refine ⟨.bool true, ?_, by rw [HY.out], (i7.setCell (p := ⟨w.heap.size, 0, none⟩) (Nat.le_refl _) _).grown (grownBy_putObj' _ _ _) (by show w.heap.size ≤ (W.heap.modify _ _).size; rw [Array.size_modify]; exact i7.size) (fun k e => by have := Option.some.inj e; omega)⟩
    simp [results, Tryd.f27, go_sem, hc5]
  case stop =>
    rintro W ⟨i1, i5, i7⟩ hK
    gi_wp2
    have hne : W0.heap.size ≠ w.heap.size := by omega
    refine ⟨by simp, .inl ⟨_, _, rfl, run_takeDeferred hK, ?_⟩⟩
    have hc5 : (W.putObj W0.heap.size (.deferred none)).cell? ⟨w.heap.size, 0, none⟩ = some (.bool false) := (World.cell?_of_block (World.putObj_heap_other hne.symm)).trans i5
    refine ⟨.bool false, ?_, by rw [i1.out], i7.grown (grownBy_putObj' _ _ _) i7.size (fun k e => by have := Option.some.inj e; omega)⟩
    simp [results, Tryd.f27, go_sem, hc5]
end Go.Proofs.YtjpaajpjajoijaaDoor
