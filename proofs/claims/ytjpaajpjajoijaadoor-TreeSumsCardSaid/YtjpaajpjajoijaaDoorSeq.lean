/- strings.SplitSeq at a stroke: what its function hands to the loop's body, one by one. -/
import Derived.RangeFuncNested
import Derived.RangeFuncBound
import Derived.RangeFuncCalls
import Derived.RangeFuncLeaves
import Derived.Shelf.Abstract
import Derived.Shelf.RegionOpen
import Derived.WalkKit
import Derived.OwnWalkIn
import Derived.TacticsInMore
import Derived.LoopNIn
import Derived.LoopIn
import Derived.Test.YtjpaajpjajoijaaDoorSign
namespace Go.Proofs.YtjpaajpjajoijaaDoor
set_option linter.unusedVariables false
open Go.RowKit Go.Shelf
attribute [local go_sem] Oper.semAt_some
/-- Three blocks lie as they lay. -/
def Keeps3 (b1 b2 b3 : Nat) (W W' : World) : Prop := W'.heap[b1]? = W.heap[b1]? ∧ W'.heap[b2]? = W.heap[b2]? ∧ W'.heap[b3]? = W.heap[b3]?
/-- The text that is left in a cell. -/
def leftAt (b : Nat) (W : World) : Nat := match W.cell? ⟨b, 0, none⟩ with
  | some (.string r) => r.size + 1
  | _ => 0
theorem leftAt_eq {b : Nat} {W : World} {r : ByteArray} (h : W.cell? ⟨b, 0, none⟩ = some (.string r)) : leftAt b W = r.size + 1 := by
  unfold leftAt
  rw [h]
theorem mk_data (r : ByteArray) : (⟨r.data.toList.toArray⟩ : ByteArray) = r := by
  apply ByteArray.ext
  apply Array.toList_inj.1
  simp
theorem mk_of {r : ByteArray} {x : List UInt8} (h : r.data.toList = x) : (⟨x.toArray⟩ : ByteArray) = r := by rw [← h, mk_data]
theorem drop_cons_at {α : Type} {p : List α} {k : Nat} {x : α} {q : List α} (h : x :: q = p.drop k) : p[k]? = some x ∧ q = p.drop (k + 1) := by
  have h1 : k < p.length := by
    rcases Nat.lt_or_ge k p.length with h1 | h1
    · exact h1
    · rw [List.drop_of_length_le h1] at h; cases h
  rw [List.drop_eq_getElem_cons h1] at h
  injection h with h2 h3
  exact ⟨by rw [List.getElem?_eq_getElem h1, h2], h3⟩
theorem cell_keep3 {b : Nat} {W W' : World} (h : W'.heap[b]? = W.heap[b]?) : W'.cell? ⟨b, 0, none⟩ = W.cell? ⟨b, 0, none⟩ := World.cell?_of_block h
theorem frozen_keep3 {b : Nat} {W W' : World} (h : W'.heap[b]? = W.heap[b]?) : W'.frozen? ⟨b, 0, none⟩ = W.frozen? ⟨b, 0, none⟩ := World.frozen?_of_block h
set_option maxRecDepth 100000 in
set_option maxHeartbeats 2000000 in
theorem split_in (l b1 b2 b3 : Nat) (s : ByteArray) (J : Nat → World → Prop) (Jx : World → Prop) (hsz : s.size ≤ 1000000)
    (hJ : ∀ k W v, J k W → J k (W.setCell ⟨b2, 0, none⟩ v))
    (hY : ∀ k x W, J k W → (splitS s.data.toList)[k]? = some x → YieldAt Fence.wide 2 Tryd.prog l #[.string ⟨x.toArray⟩] W fun e W' =>
      (e = .returned (.bool true) ∧ J (k + 1) W' ∧ Keeps3 b1 b2 b3 W W') ∨ (e = .returned (.bool false) ∧ Jx W'))
    (W : World) (h1 : W.cell? ⟨b1, 0, none⟩ = some (.string ⟨#[47]⟩)) (h2 : W.cell? ⟨b2, 0, none⟩ = some (.string s)) (hf : W.frozen? ⟨b2, 0, none⟩ = false) (h3 : W.cell? ⟨b3, 0, none⟩ = some (.int .i64 0))
    (hn1 : b1 ≠ b2) (hn3 : b3 ≠ b2) (h0 : J 0 W) :
    CallsIn Fence.wide 3 Tryd.prog 95 #[.func (.yield l) #[] #[], .pointer (some ⟨b1, 0, none⟩), .pointer (some ⟨b2, 0, none⟩), .pointer (some ⟨b3, 0, none⟩)] W fun e W' =>
      (∃ v, e = .returned v) ∧ (J (splitS s.data.toList).length W' ∨ Jx W') := by
  refine callsIn_of_wp Tryd.func95 rfl trivial ?_ rfl
  simp only [Tryd.ntmps95, List.size_toArray, List.length_cons, List.length_nil, Nat.reduceAdd, Nat.reduceSub, Array.replicate_succ, Array.replicate_zero, List.push_toArray, List.append_toArray, List.nil_append, List.cons_append]
  gi_wp2
  gi_loopw [7, 8] (fun i v wr => ∃ (k : Nat) (r : ByteArray), Hid (splitS r.data.toList = (splitS s.data.toList).drop k) ∧ r.size ≤ 1000000 ∧ wr.cell? ⟨b1, 0, none⟩ = some (.string ⟨#[47]⟩) ∧ wr.cell? ⟨b2, 0, none⟩ = some (.string r) ∧ wr.frozen? ⟨b2, 0, none⟩ = false ∧ wr.cell? ⟨b3, 0, none⟩ = some (.int .i64 0) ∧ J k wr)
    (fun _ _ wr => leftAt b2 wr)
  case atStart => exact ⟨0, s, Lib.hid rfl, hsz, h1, h2, hf, h3, h0⟩
  case round =>
    clear h1 h2 hf h3 h0
    obtain ⟨k, r, hd, hrz, h1, h2, hf, h3, hJs⟩ := hrel
    have hi := fun w => Tryd.strings_Index_one r 47 w
    have hge := Go.Lib.indexByte_ge r.data.toList 47
    obtain ⟨i, hie⟩ : ∃ i, i = Go.Lib.indexByte r.data.toList 47 := ⟨_, rfl⟩
    rw [← hie] at hi hge
    have HI := Lib.hid hi
    clear hi
    by_cases hneg : i = -1
    · rw [hneg] at hie
      have hsp := splitS_first_none r.data.toList hie.symm
      rw [hd.out] at hsp
      obtain ⟨hk1, hk2⟩ := drop_cons_at hsp.symm
      have hlen : (splitS s.data.toList).length = k + 1 := by
        have := congrArg List.length hsp
        rw [List.length_drop] at this
        simp at this
        omega
      have hlt : i < 0 := by omega
      obtain ⟨fn, tmps, assign, body, hy, hR⟩ := hY k _ wr hJs hk1
      rw [mk_data] at hy
      have HL := Lib.hid hlen
      clear hie hneg hsp hk1 hk2 hlen
      gi_wp2_with (refine ⟨trivial, ?_⟩; gi_at_call 97; refine (callsIn_wide.2 (HI.out _)).mono ?_; rintro e w' ⟨rfl, rfl⟩)
      refine hR.mono ?_
      rintro e W3 (⟨rfl, hJ3, hk3⟩ | ⟨rfl, hJx3⟩)
      · gi_wp2
        go_end0
        exact ⟨⟨_, rfl⟩, .inl (by rw [HL.out]; exact hJ3)⟩
      · gi_wp2
        go_end0
        exact ⟨⟨_, rfl⟩, .inr hJx3⟩
    · obtain ⟨j, rfl⟩ : ∃ j : Nat, i = (j : Int) := ⟨i.toNat, by omega⟩
      obtain ⟨hjl, hsp⟩ := splitS_first_some r.data.toList j hie.symm
      have hjl2 : j < r.size := hjl
      have hd' := hd.out
      rw [hsp] at hd'
      obtain ⟨hk1, hk2⟩ := drop_cons_at hd'
      obtain ⟨fn, tmps, assign, body, hy, hR⟩ := hY k _ wr hJs hk1
      have he1 : (r.extract 0 j).data.toList = r.data.toList.take j := by rw [Go.Lib.extract_data]; simp
      rw [mk_of he1] at hy
      have hrest : (r.extract (j + 1) r.size).data.toList = r.data.toList.drop (j + 1) := Go.Lib.extract_to_end r (j + 1)
      have HK := Lib.hid hk2
      have HR := Lib.hid hrest
      clear hie hneg hsp hk1 hk2 hd' hrest he1 hjl
      gi_wp2_with (refine ⟨trivial, ?_⟩; gi_at_call 97; refine (callsIn_wide.2 (HI.out _)).mono ?_; rintro e w' ⟨rfl, rfl⟩)
      refine hR.mono ?_
      rintro e W3 (⟨rfl, hJ3, hk3⟩ | ⟨rfl, hJx3⟩)
      · have c1 := (cell_keep3 hk3.1).trans h1
        have c2 := (cell_keep3 hk3.2.1).trans h2
        have c3 := (cell_keep3 hk3.2.2).trans h3
        have cf := (frozen_keep3 hk3.2.1).trans hf
        have hsame : (W3.setCell ⟨b2, 0, none⟩ (.string (r.extract (j + 1) r.size))).cell? ⟨b2, 0, none⟩ = some (.string (r.extract (j + 1) r.size)) := World.cell?_setCell_same' _ _ _ (by rw [c2]; rfl)
        have hes : (r.extract (j + 1) r.size).size ≤ r.size := by
          have h5 := congrArg List.length HR.out
          rw [List.length_drop] at h5
          have h6 : (r.extract (j + 1) r.size).data.toList.length = (r.extract (j + 1) r.size).size := rfl
          have h7 : r.data.toList.length = r.size := rfl
          omega
        have hlt7 : (r.extract (j + 1) r.size).size < r.size := by
          have h5 := congrArg List.length HR.out
          rw [List.length_drop] at h5
          have h6 : (r.extract (j + 1) r.size).data.toList.length = (r.extract (j + 1) r.size).size := rfl
          have h7 : r.data.toList.length = r.size := rfl
          omega
        have HS := Lib.hid hsame
        clear hsame
        gi_wp2
        go_roundw
        case rel =>
          refine ⟨k + 1, r.extract (j + 1) r.size, Lib.hid (by rw [HR.out]; exact HK.out), by omega, ?_, HS.out, by rw [World.frozen?_setCell]; exact cf, ?_, hJ _ _ _ hJ3⟩
          · exact (World.cell?_setCell_other _ _ _ _ (by simp <;> omega)).trans c1
          · exact (World.cell?_setCell_other _ _ _ _ (by simp <;> omega)).trans c3
        case measure =>
          rw [leftAt_eq HS.out, leftAt_eq h2]
          omega
      · gi_wp2
        refine bodyPost_ret (results_none rfl _ _ _) rfl ?_
        exact ⟨⟨_, rfl⟩, .inr hJx3⟩
theorem grown_setCell (W : World) (a : Addr) (v : Value) : W.grownBy (W.setCell a v) (some a.block) :=
  ⟨rfl, rfl, rfl, by show W.heap.size ≤ (W.heap.modify _ _).size; rw [Array.size_modify]; exact Nat.le_refl _, fun k _ hk => Below.heap_setCell W a v k (fun e => hk (by rw [e]))⟩
/-- What the body of a round must keep. -/
def KeepsFor (N b1 b2 b3 : Nat) (W W' : World) : Prop := Keeps3 b1 b2 b3 W W' ∧ W'.heap[N]? = W.heap[N]? ∧ W'.heap[N + 1]? = W.heap[N + 1]?
/-- How the body of a round is left. -/
def roundLeft (I : Nat → World → Prop) (Ix : World → Prop) (N b1 b2 b3 k : Nat) (W : World) : Exit → Act → World → Prop
  | .normal, _, W' => KeepsFor N b1 b2 b3 W W' ∧ I (k + 1) W'
  | .ret, _, W' => KeepsFor N b1 b2 b3 W W' ∧ Ix W'
  | _, _, _ => False
theorem range_split {g : Operand} {p : Tmp} {assign body : Code} {Q : Exit → Act → World → Prop} {a : Act} {w : World} {s : ByteArray} {b1 b2 b3 : Nat} (hsz : s.size ≤ 1000000)
    (hg : a.eval g = .func (.func 95) #[] #[.pointer (some ⟨b1, 0, none⟩), .pointer (some ⟨b2, 0, none⟩), .pointer (some ⟨b3, 0, none⟩)])
    (h1 : w.cell? ⟨b1, 0, none⟩ = some (.string ⟨#[47]⟩)) (h2 : w.cell? ⟨b2, 0, none⟩ = some (.string s)) (hf : w.frozen? ⟨b2, 0, none⟩ = false) (h3 : w.cell? ⟨b3, 0, none⟩ = some (.int .i64 0))
    (hn1 : b1 ≠ b2) (hn3 : b3 ≠ b2) (I : Nat → World → Prop) (Ix : World → Prop)
    (hI : ∀ k W W' row, I k W → W.grownBy W' row → (∀ r, row = some r → r = b2 ∨ w.heap.size ≤ r) → I k W')
    (hIx : ∀ W W' row, Ix W → W.grownBy W' row → (∀ r, row = some r → r = b2 ∨ w.heap.size ≤ r) → Ix W')
    (h0 : I 0 w) (a₁ : ByteArray → Act)
    (hassign : ∀ (l : Nat) (x : ByteArray) (W : World) (K : Act → World → Prop), K (a₁ x) W →
      assign.wpIn (Fence.wide.inRound l) 2 Tryd.prog (Exit.then K (fun _ _ _ => False)) { tmps := a.tmps.setIfInBounds p (.string x), defers := [] } W)
    (hbody : ∀ (l k : Nat) (x : List UInt8) (W : World), w.heap.size + 1 < W.heap.size → I k W → (splitS s.data.toList)[k]? = some x →
      body.wpIn (Fence.wide.inRound l) 2 Tryd.prog (roundLeft I Ix w.heap.size b1 b2 b3 k W) (a₁ ⟨x.toArray⟩) W)
    (hdone : ∀ W, I (splitS s.data.toList).length W → W.heap[w.heap.size]? = some (.deferred (some [])) → Q .normal { a with defers := { target := .collected w.heap.size, args := #[] } :: a.defers } W)
    (hstop : ∀ W, Ix W → W.heap[w.heap.size]? = some (.deferred (some [])) → Code.ret.wpIn Fence.wide 4 Tryd.prog Q { a with defers := { target := .collected w.heap.size, args := #[] } :: a.defers } W) :
    (Code.rangeFunc g #[p] assign body).wpIn Fence.wide 4 Tryd.prog Q a w := by
  refine wpIn_rangeFunc ?_
  intro fn hfn
  obtain ⟨rec, hrec⟩ : ∃ rec : LoopState → Option Code → Loop, rec = fun st pe => { state := st, pending := pe, fn, tmps := a.tmps, params := #[p], assign, body, defers := w.heap.size } := ⟨_, rfl⟩
  obtain ⟨W1, hW1⟩ : ∃ W1, (w.alloc (.deferred (some []))).alloc (.loop (rec .ready none)) = W1 := ⟨_, rfl⟩
  have hB1 : w.grownBy W1 none := by
    rw [← hW1]
    exact (World.grownBy_alloc w _ none).trans (World.grownBy_alloc _ _ none)
  have hL1 : W1.heap[w.heap.size + 1]? = some (.loop (rec .ready none)) := by
    rw [← hW1]
    have := World.alloc_heap_new (w.alloc (.deferred (some []))) (.loop (rec .ready none))
    rwa [World.size_alloc] at this
  have hK1 : W1.heap[w.heap.size]? = some (.deferred (some [])) := by
    rw [← hW1]
    exact (Below.heap_alloc _ _ _ (by simp)).trans (World.alloc_heap_new w _)
  have hlt1 : b1 < w.heap.size := World.block_lt_of_cell? w _ h1
  have hlt2 : b2 < w.heap.size := World.block_lt_of_cell? w _ h2
  have hlt3 : b3 < w.heap.size := World.block_lt_of_cell? w _ h3
  have heap1 : ∀ b, b < w.heap.size → W1.heap[b]? = w.heap[b]? := fun b hb => hB1.block b hb (by simp)
  refine ⟨w.heap.size + 1, [{ target := .collected w.heap.size, args := #[] }], W1, { target := .fn (.func 95) #[.pointer (some ⟨b1, 0, none⟩), .pointer (some ⟨b2, 0, none⟩), .pointer (some ⟨b3, 0, none⟩)], args := #[.func (.yield (w.heap.size + 1)) #[] #[]] }, W1, 95,
    #[.func (.yield (w.heap.size + 1)) #[] #[], .pointer (some ⟨b1, 0, none⟩), .pointer (some ⟨b2, 0, none⟩), .pointer (some ⟨b3, 0, none⟩)], W1, ?_, ?_, ?_, ?_, ?_, ?_⟩
  · rw [← hW1, hrec]; exact run_enterLoop_outer _ _ _ _ _
  · simp only [resolve, hg]
    simp [go_sem]
  · intro f' hf'; trivial
  · simp [invoke, go_sem]
  · intro h; simp [Fence.wide] at h
  · refine (split_in (w.heap.size + 1) b1 b2 b3 s
      (fun k W => I k W ∧ W.heap[w.heap.size + 1]? = some (.loop (rec .ready none)) ∧ W.heap[w.heap.size]? = some (.deferred (some [])))
      (fun W => Ix W ∧ W.heap[w.heap.size + 1]? = some (.loop (rec .done (some .ret))) ∧ W.heap[w.heap.size]? = some (.deferred (some [])))
      hsz ?_ ?_ W1 ((cell_keep3 (heap1 b1 hlt1)).trans h1) ((cell_keep3 (heap1 b2 hlt2)).trans h2) ((frozen_keep3 (heap1 b2 hlt2)).trans hf) ((cell_keep3 (heap1 b3 hlt3)).trans h3) hn1 hn3
      ⟨hI 0 w W1 none h0 hB1 (fun r e => by cases e), hL1, hK1⟩).mono ?_
    · -- the iterator writes its own cell
      rintro k W v ⟨hi, hl, hk⟩
      refine ⟨hI k W _ (some b2) hi (grown_setCell W ⟨b2, 0, none⟩ v) (fun r e => .inl (Option.some.inj e).symm), ?_, ?_⟩
      · exact (Below.heap_setCell W ⟨b2, 0, none⟩ v _ (by show _ ≠ b2; omega)).trans hl
      · exact (Below.heap_setCell W ⟨b2, 0, none⟩ v _ (by show _ ≠ b2; omega)).trans hk
    · -- one round
      rintro k x W ⟨hi, hl, hk⟩ hx
      have hlt : w.heap.size + 1 < W.heap.size := (Array.getElem?_eq_some_iff.1 hl).1
      have hy : (Instr.yield (w.heap.size + 1) #[.string ⟨x.toArray⟩]).run Tryd.prog W = .ok (.round (w.heap.size + 1) fn (a.tmps.setIfInBounds p (.string ⟨x.toArray⟩)) assign body) W := by
        have h5 := run_yield (P := Tryd.prog) (args := #[.string ⟨x.toArray⟩]) hl (by rw [hrec]; rfl)
        rw [hrec] at h5
        simpa using h5
      refine ⟨fn, _, assign, body, hy, roundIn_of_wpIn hfn ?_⟩
      apply hassign
      refine ⟨_, run_beginRound hl (by rw [hrec]), ?_⟩
      have hl2 : (W.putObj (w.heap.size + 1) (.loop { rec .ready none with state := .busy })).heap[w.heap.size + 1]? = some (.loop { rec .ready none with state := .busy }) := World.putObj_heap_same hlt
      have hk2 : (W.putObj (w.heap.size + 1) (.loop { rec .ready none with state := .busy })).heap[w.heap.size]? = some (.deferred (some [])) := (World.putObj_heap_other (by omega)).trans hk
      have hkeep : ∀ (V : World) (o : Obj) (b : Nat), b < w.heap.size → (V.putObj (w.heap.size + 1) o).heap[b]? = V.heap[b]? := fun V o b hb => World.putObj_heap_other (by omega)
      refine wpIn_mono (hbody _ k x _ (by simp; omega) (hI k W _ (some (w.heap.size + 1)) hi (grownBy_putObj' W _ _) (fun r e => .inr (by have := Option.some.inj e; omega))) hx) ?_
      have fin : ∀ (jump : Option Code) (W3 : World), KeepsFor w.heap.size b1 b2 b3 (W.putObj (w.heap.size + 1) (.loop { rec .ready none with state := .busy })) W3 →
          (Instr.endRound (w.heap.size + 1) jump).run Tryd.prog W3 = .ok (.bool jump.isNone) (W3.putObj (w.heap.size + 1) (.loop (rec (if jump.isNone then .ready else .done) jump))) ∧
          (W3.putObj (w.heap.size + 1) (.loop (rec (if jump.isNone then .ready else .done) jump))).heap[w.heap.size + 1]? = some (.loop (rec (if jump.isNone then .ready else .done) jump)) ∧
          (W3.putObj (w.heap.size + 1) (.loop (rec (if jump.isNone then .ready else .done) jump))).heap[w.heap.size]? = some (.deferred (some [])) ∧
          Keeps3 b1 b2 b3 W (W3.putObj (w.heap.size + 1) (.loop (rec (if jump.isNone then .ready else .done) jump))) := fun jump W3 hk3 => by
        have hl3 := hk3.2.2.trans hl2
        have := run_endRound (P := Tryd.prog) jump hl3
        rw [hrec] at this ⊢
        refine ⟨this, World.putObj_heap_same (Array.getElem?_eq_some_iff.1 hl3).1, (World.putObj_heap_other (by omega)).trans (hk3.2.1.trans hk2), ?_, ?_, ?_⟩
        · exact (hkeep _ _ b1 hlt1).trans (hk3.1.1.trans (hkeep _ _ b1 hlt1))
        · exact (hkeep _ _ b2 hlt2).trans (hk3.1.2.1.trans (hkeep _ _ b2 hlt2))
        · exact (hkeep _ _ b3 hlt3).trans (hk3.1.2.2.trans (hkeep _ _ b3 hlt3))
      rintro e a3 W3 hp
      cases e with
      | normal =>
        obtain ⟨hk3, hi3⟩ := hp
        obtain ⟨hr, hl4, hk4, h4⟩ := fin none W3 hk3
        exact ⟨_, _, hr, .inl ⟨rfl, ⟨hI _ _ _ (some (w.heap.size + 1)) hi3 (grownBy_putObj' W3 _ _) (fun r e => .inr (by have := Option.some.inj e; omega)), hl4, hk4⟩, h4⟩⟩
      | ret =>
        obtain ⟨hk3, hi3⟩ := hp
        obtain ⟨hr, hl4, hk4, h4⟩ := fin (some .ret) W3 hk3
        exact ⟨_, _, hr, .inr ⟨rfl, hIx _ _ (some (w.heap.size + 1)) hi3 (grownBy_putObj' W3 _ _) (fun r e => .inr (by have := Option.some.inj e; omega)), hl4, hk4⟩⟩
      | exit id => exact hp.elim
      | goto t => exact hp.elim
      | panic ch => exact hp.elim
      | outgrown => exact hp.elim
    · -- behind the iterator
      rintro e W2 ⟨⟨v, rfl⟩, ⟨hi, hl, hk⟩ | ⟨hi, hl, hk⟩⟩
      · refine ⟨none, _, by have := run_endLoop (P := Tryd.prog) hl (by rw [hrec]; simp); rw [hrec] at this; exact this, hdone _ ?_ ((World.putObj_heap_other (by omega)).trans hk)⟩
        exact hI _ _ _ (some (w.heap.size + 1)) hi (grownBy_putObj' W2 _ _) (fun r e => .inr (by have := Option.some.inj e; omega))
      · refine ⟨some .ret, _, by have := run_endLoop (P := Tryd.prog) hl (by rw [hrec]; simp); rw [hrec] at this; exact this, hstop _ ?_ ((World.putObj_heap_other (by omega)).trans hk)⟩
        exact hIx _ _ (some (w.heap.size + 1)) hi (grownBy_putObj' W2 _ _) (fun r e => .inr (by have := Option.some.inj e; omega))
end Go.Proofs.YtjpaajpjajoijaaDoor
