/- Slices of files as they lie in memory; bloomeryref05.Great. -/
import Derived.Test.YtjpaajpjajoijaaDoorAlive
namespace Go.Proofs.YtjpaajpjajoijaaDoor
set_option linter.unusedVariables false
open Go.RowKit
/-- A file: its path, its bytes. -/
abbrev FileB := ByteArray × ByteArray
theorem add_block (a : Addr) (n : Nat) : (a.add n).block = a.block := by unfold Addr.add; split <;> rfl
/-- The slice at A holds the files l, below block B. -/
def Files (w : World) (B : Nat) (A : Option Addr) (l : List FileB) : Prop :=
  0 < l.length → ∃ a, A = some a ∧ a.block < B ∧ ∀ j f, l[j]? = some f → w.cell? (a.add (j * 2)) = some (.string f.1) ∧ w.cell? ⟨(a.add (j * 2)).block, (a.add (j * 2)).off + 1, none⟩ = some (.string f.2)
theorem Files.below {w w' : World} {B : Nat} {A : Option Addr} {l : List FileB} (h : Files w B A l) {C : Nat} (hb : Below C w w') (hC : B ≤ C) : Files w' B A l := fun h0 => by
  obtain ⟨a, rfl, hab, hc⟩ := h h0
  exact ⟨a, rfl, hab, fun j f hj => ⟨(hb.cell (p := a.add (j * 2)) (by rw [add_block]; omega)).trans (hc j f hj).1, (hb.cell (p := ⟨(a.add (j * 2)).block, (a.add (j * 2)).off + 1, none⟩) (by show (a.add (j * 2)).block < C; rw [add_block]; omega)).trans (hc j f hj).2⟩⟩
theorem Files.more {w : World} {B B' : Nat} {A : Option Addr} {l : List FileB} (h : Files w B A l) (hB : B ≤ B') : Files w B' A l := fun h0 => by
  obtain ⟨a, rfl, hab, hc⟩ := h h0
  exact ⟨a, rfl, by omega, hc⟩
theorem Files.drewN {w : World} {B : Nat} {A : Option Addr} {l : List FileB} (h : Files w B A l) (n : Nat) : Files (w.drewN n) B A l := h
/-- More than 60 files, or more than 300 bytes somewhere? -/
def greatF (f : FileB) : Bool := decide (300 < f.1.size) || decide (300 < f.2.size)
def greatL (l : List FileB) : Bool := decide (60 < l.length) || l.any greatF
theorem great_step (l : List FileB) (k : Nat) (h : k < l.length) (hh : ∀ f ∈ l.take k, greatF f = false) (hk : greatF (l[k]'h) = false) : ∀ f ∈ l.take (k + 1), greatF f = false := by
  rw [List.take_succ_eq_append_getElem h]
  intro f hf
  rcases List.mem_append.1 hf with hf | hf
  · exact hh f hf
  · simp at hf; rw [hf]; exact hk
theorem great_hit (l : List FileB) (k : Nat) (h : k < l.length) (hk : greatF (l[k]'h) = true) : l.any greatF = true := List.any_eq_true.2 ⟨_, List.getElem_mem h, hk⟩
set_option maxHeartbeats 400000 in
set_option maxRecDepth 100000 in
theorem great_any (l : List FileB) (A : Option Addr) (c : Nat) (w : World) (hF : Files w w.heap.size A l) (hn : l.length ≤ 4611686018427387904) (hs : ∀ f ∈ l, f.1.size ≤ maxLen ∧ f.2.size ≤ maxLen) :
    Calls Tryd.prog 14 #[.slice A l.length c] w fun e w' => e = .returned (.bool (greatL l)) ∧ w' = w := by
  by_cases h60 : 60 < l.length
  · have hg : greatL l = true := by unfold greatL; rw [decide_eq_true h60]; rfl
    rw [hg]
    clear hg hF hs
    go_enter Tryd.func14, Tryd.ntmps14
    go_wp2
    go_ret
    exact ⟨rfl, rfl⟩
  · have hg : greatL l = l.any greatF := by unfold greatL; rw [decide_eq_false h60]; rfl
    rw [hg]
    have HF := Lib.hid hF
    have HS := Lib.hid hs
    clear hg hF hs
    go_enter Tryd.func14, Tryd.ntmps14
    go_wp2
    go_loop [3, 9] (fun _ i => ∃ k : Nat, k ≤ l.length ∧ i = .int .i64 k ∧ Hid (∀ f ∈ l.take k, greatF f = false)) (fun _ i => l.length - (intOf i).toNat)
    case atStart => exact ⟨0, by omega, rfl, Lib.hid (by simp)⟩
    case round =>
      obtain ⟨k, hk, rfl, hh⟩ := hrel
      by_cases hlt : k < l.length
      · obtain ⟨a, rfl, hab, hc⟩ := HF.out (by omega)
        obtain ⟨c1, c2⟩ := hc k l[k] (List.getElem?_eq_getElem hlt)
        obtain ⟨s1, s2⟩ := HS.out l[k] (List.getElem_mem hlt)
        have hst := great_step l k hlt hh.out
        have hht := great_hit l k hlt
        obtain ⟨f, hf⟩ : ∃ f, f = l[k] := ⟨_, rfl⟩
        rw [← hf] at c1 c2 hst hht s1 s2
        have HST := Lib.hid hst
        have HHT := Lib.hid hht
        unfold maxLen at s1 s2
        clear hf hst hht hc
        by_cases g1 : 300 < f.1.size
        · have HG := Lib.hid (HHT.out (by unfold greatF; rw [decide_eq_true g1]; rfl))
          go_wp2
          go_ret
          exact ⟨by rw [HG.out]; rfl, rfl⟩
        · by_cases g2 : 300 < f.2.size
          · have HG := Lib.hid (HHT.out (by unfold greatF; rw [decide_eq_true g2, Bool.or_true]))
            go_wp2
            go_ret
            exact ⟨by rw [HG.out]; rfl, rfl⟩
          · have HG := Lib.hid (HST.out (by unfold greatF; rw [decide_eq_false g1, decide_eq_false g2]; rfl))
            go_wp2
            go_round
            case rel => exact ⟨k + 1, by omega, by go_num, HG⟩
            case measure => simp [intOf]; omega
      · have hfin : l.any greatF = false := by
          have h5 := hh.out
          rw [List.take_of_length_le (by omega)] at h5
          exact List.any_eq_false.2 (fun x hx => by rw [h5 x hx]; simp)
        have HFI := Lib.hid hfin
        clear hfin
        go_wp2
        go_ret
        exact ⟨by rw [HFI.out]; rfl, rfl⟩
/-- What is known of files that are not great. -/
theorem great_not {l : List FileB} (h : greatL l = false) : l.length ≤ 60 ∧ ∀ f ∈ l, f.1.size ≤ 300 ∧ f.2.size ≤ 300 := by
  unfold greatL at h
  rw [Bool.or_eq_false_iff, decide_eq_false_iff_not] at h
  refine ⟨by omega, fun f hf => ?_⟩
  have := List.any_eq_false.1 h.2 f hf
  unfold greatF at this
  simp at this
  omega
end Go.Proofs.YtjpaajpjajoijaaDoor
