/- tree.Get, bloomeryref05.Get, bloomerylaw05.texts. -/
import Derived.Test.YtjpaajpjajoijaaDoorFixed
namespace Go.Proofs.YtjpaajpjajoijaaDoor
set_option linter.unusedVariables false
open Go.RowKit
theorem Texts.mono {w : World} {B B' : Nat} {A : Option Addr} {l : List ByteArray} (h : Texts w B A l) (hB : B ≤ B') : Texts w B' A l := fun h0 => by
  obtain ⟨a, rfl, hab, hc⟩ := h h0
  exact ⟨a, rfl, by omega, hc⟩
/-- Is it the path? -/
def isP (p : ByteArray) (f : FileB) : Bool := f.1.toList == p.toList
/-- The first file at a path. -/
def getL (l : List FileB) (p : ByteArray) : Option ByteArray := (l.find? (isP p)).map (·.2)
/-- Its place. -/
def idxL (p : ByteArray) : List FileB → Int
  | [] => -1
  | f :: l => if isP p f then 0 else if idxL p l = -1 then -1 else idxL p l + 1
theorem find_take_none {l : List FileB} {p : FileB → Bool} {k : Nat} (h : k < l.length) (hn : (l.take k).find? p = none) (hk : p (l[k]'h) = true) : l.find? p = some (l[k]'h) := by
  have h1 : l = l.take k ++ l[k]'h :: l.drop (k + 1) := by rw [← List.drop_eq_getElem_cons h, List.take_append_drop]
  conv => lhs; rw [h1]
  rw [List.find?_append, hn, List.find?_cons_of_pos hk]
  rfl
theorem find_take_succ {l : List FileB} {p : FileB → Bool} {k : Nat} (h : k < l.length) (hn : (l.take k).find? p = none) (hk : p (l[k]'h) = false) : (l.take (k + 1)).find? p = none := by
  rw [List.take_succ_eq_append_getElem h, List.find?_append, hn, List.find?_cons_of_neg (by rw [hk]; simp)]
  rfl
/-- The text of an option. -/
def optB (o : Option ByteArray) : ByteArray := o.getD ⟨#[]⟩
set_option maxHeartbeats 1000000 in
set_option maxRecDepth 100000 in
theorem rget_any (l : List FileB) (p : ByteArray) (A : Option Addr) (c : Nat) (w : World) (hF : Files w w.heap.size A l) (hn : l.length ≤ 4611686018427387904) :
    Calls Tryd.prog 20 #[.slice A l.length c, .string p] w fun e w' => e = .returned (.tuple #[.string (optB (getL l p)), .bool (getL l p).isSome]) ∧ w' = w := by
  have hg : getL l p = (l.find? (isP p)).map (·.2) := rfl
  obtain ⟨G, hG⟩ : ∃ G, G = getL l p := ⟨_, rfl⟩
  rw [← hG] at hg ⊢
  have HG := Lib.hid hg
  have HF := Lib.hid hF
  clear hG hg hF
  go_enter Tryd.func20, Tryd.ntmps20
  go_wp2
  go_loop [6, 9] (fun _ i => ∃ k : Nat, k ≤ l.length ∧ i = .int .i64 k ∧ Hid ((l.take k).find? (isP p) = none)) (fun _ i => l.length - (intOf i).toNat)
  case atStart => exact ⟨0, by omega, rfl, Lib.hid rfl⟩
  case round =>
    obtain ⟨k, hk, rfl, hh⟩ := hrel
    by_cases hlt : k < l.length
    · obtain ⟨a, rfl, hab, hc⟩ := HF.out (by omega)
      obtain ⟨c1, c2⟩ := hc k l[k] (List.getElem?_eq_getElem hlt)
      have hy := find_take_none hlt hh.out
      have hno := find_take_succ hlt hh.out
      obtain ⟨f, hf⟩ : ∃ f, f = l[k] := ⟨_, rfl⟩
      rw [← hf] at c1 c2 hy hno
      have HY := Lib.hid hy
      have HNO := Lib.hid hno
      clear hf hc hy hno
      cases he : f.1.toList == p.toList with
      | true =>
        have e1 : f.1.toList = p.toList := beq_iff_eq.1 he
        have HR := Lib.hid (HY.out he)
        have E1 := Lib.hid e1
        clear e1
        go_wp2
        go_ret2
        exact ⟨by rw [HG.out, HR.out]; rfl, rfl⟩
      | false =>
        have e1 : ¬ f.1.toList = p.toList := beq_eq_false_iff_ne.1 he
        have HR := Lib.hid (HNO.out he)
        go_wp2
        go_round
        case rel => exact ⟨k + 1, by omega, by go_num, HR⟩
        case measure => simp [intOf]; omega
    · have hfin : G = none := by
        have h5 := hh.out
        rw [List.take_of_length_le (by omega)] at h5
        rw [HG.out, h5]
        rfl
      have HFI := Lib.hid hfin
      clear hfin
      go_wp2
      go_ret2
      exact ⟨by rw [HFI.out]; rfl, rfl⟩
/-- The predicate of tree.Get: it reads the path in its box. -/
theorem getpred_any (f : FileB) (p : ByteArray) (b : Nat) (w : World) (hc : w.cell? ⟨b, 0, none⟩ = some (.string p)) :
    Calls Tryd.prog 65 #[.agg #[.string f.1, .string f.2], .pointer (some ⟨b, 0, none⟩)] w fun e w' => e = .returned (.bool (isP p f)) ∧ Below w.heap.size w w' := by
  have hb := World.block_lt_of_cell? _ _ hc
  have k0 : (w.alloc (.cells #[.string f.1, .string f.2] 36)).cell? ⟨b, 0, none⟩ = some (.string p) := (World.cell?_alloc_lt w _ ⟨b, 0, none⟩ hb).trans hc
  unfold isP
  clear hc
  go_enter Tryd.func65, Tryd.ntmps65
  go_wp2
  go_ret
  exact ⟨rfl, (Below.refl _ _).alloc (Nat.le_refl _) _⟩
/-- The place that IndexFunc tells. -/
def FoundAt (l : List FileB) (p : ByteArray) (e : Ending) : Prop :=
  ∃ i : Int, e = .returned (.int .i64 i) ∧ ((i = -1 ∧ l.find? (isP p) = none) ∨ ∃ (k : Nat) (h : k < l.length), i = k ∧ l.find? (isP p) = some (l[k]'h))
set_option maxHeartbeats 1000000 in
set_option maxRecDepth 100000 in
theorem indexFunc_any (l : List FileB) (p : ByteArray) (A : Option Addr) (c b : Nat) (w : World) (hF : Files w w.heap.size A l) (hn : l.length ≤ 4611686018427387904) (hb : w.cell? ⟨b, 0, none⟩ = some (.string p)) :
    Calls Tryd.prog 64 #[.slice A l.length c, .func (.func 65) #[] #[.pointer (some ⟨b, 0, none⟩)]] w fun e w' => FoundAt l p e ∧ Below w.heap.size w w' := by
  have hbl := World.block_lt_of_cell? _ _ hb
  have HF := Lib.hid hF
  have HBC := Lib.hid hb
  clear hF hb
  go_enter Tryd.func64, Tryd.ntmps64
  go_wp2
  go_loopw [5, 8] (fun _ i wr => ∃ k : Nat, k ≤ l.length ∧ i = .int .i64 k ∧ Hid ((l.take k).find? (isP p) = none) ∧ Below w.heap.size w wr) (fun _ i _ => l.length - (intOf i).toNat)
  case atStart => exact ⟨0, by omega, rfl, Lib.hid rfl, Below.refl _ _⟩
  case round =>
    obtain ⟨k, hk, rfl, hh, hB⟩ := hrel
    by_cases hlt : k < l.length
    · obtain ⟨a, rfl, hab, hc⟩ := (HF.out.below hB (Nat.le_refl _)) (by omega)
      obtain ⟨c1, c2⟩ := hc k l[k] (List.getElem?_eq_getElem hlt)
      have hy := find_take_none hlt hh.out
      have hno := find_take_succ hlt hh.out
      have hbw : wr.cell? ⟨b, 0, none⟩ = some (.string p) := (hB.cell (p := ⟨b, 0, none⟩) hbl).trans HBC.out
      have hpr := getpred_any l[k] p b wr hbw
      have hfl : l[k] = l[k] := rfl
      obtain ⟨f, hf⟩ : ∃ f, f = l[k] := ⟨_, rfl⟩
      rw [← hf] at c1 c2 hy hno hpr
      obtain ⟨q, hq⟩ : ∃ q, q = isP p f := ⟨_, rfl⟩
      rw [← hq] at hy hno hpr
      have HY := Lib.hid hy
      have HNO := Lib.hid hno
      have HPR := Lib.hid hpr
      have HFE := Lib.hid hf
      have hsz := hB.size
      clear hf hc hy hno hpr hbw hq hfl
      cases q with
      | true =>
        have HR := Lib.hid (HY.out rfl)
        go_wp2_with (go_at_call 65; (with_reducible refine HPR.out.mono ?_); rintro e w1 ⟨rfl, b1⟩)
        go_ret
        exact ⟨⟨k, rfl, .inr ⟨k, hlt, rfl, by rw [HR.out, HFE.out]⟩⟩, hB.trans (b1.mono hsz)⟩
      | false =>
        have HR := Lib.hid (HNO.out rfl)
        go_wp2_with (go_at_call 65; (with_reducible refine HPR.out.mono ?_); rintro e w1 ⟨rfl, b1⟩)
        go_roundw
        case rel => exact ⟨k + 1, by omega, by go_num, HR, hB.trans (b1.mono hsz)⟩
        case measure => simp [intOf]; omega
    · have hfin : l.find? (isP p) = none := by
        have h5 := hh.out
        rwa [List.take_of_length_le (by omega)] at h5
      have HFI := Lib.hid hfin
      clear hfin
      go_wp2
      go_ret
      exact ⟨⟨-1, rfl, .inl ⟨rfl, HFI.out⟩⟩, hB⟩
set_option maxHeartbeats 1000000 in
set_option maxRecDepth 100000 in
theorem tget_any (l : List FileB) (p : ByteArray) (A : Option Addr) (c : Nat) (w : World) (hF : Files w w.heap.size A l) (hn : l.length ≤ 4611686018427387904) :
    Calls Tryd.prog 39 #[.slice A l.length c, .string p] w fun e w' => e = .returned (.tuple #[.string (optB (getL l p)), .bool (getL l p).isSome]) ∧ Below w.heap.size w w' := by
  have hA0 : Below w.heap.size w (w.alloc (.cells #[.string p] 9)) := (Below.refl _ _).alloc (Nat.le_refl _) _
  have hix := indexFunc_any l p A c w.heap.size (w.alloc (.cells #[.string p] 9)) ((hF.below hA0 (Nat.le_refl _)).more (by simp)) hn ((Blk.new w 9 #[.string p]).cell 0)
  have hg : getL l p = (l.find? (isP p)).map (·.2) := rfl
  obtain ⟨G, hG⟩ : ∃ G, G = getL l p := ⟨_, rfl⟩
  rw [← hG] at hg ⊢
  have HG := Lib.hid hg
  have HF := Lib.hid hF
  have HIX := Lib.hid hix
  clear hG hg hF hix
  go_enter Tryd.func39, Tryd.ntmps39
  go_wp2_with (go_at_call 64; (with_reducible refine HIX.out.mono ?_))
  rintro e w1 ⟨⟨i, rfl, hcase⟩, b1⟩
  simp only [World.size_alloc] at b1
  replace b1 := hA0.trans (b1.mono (by omega))
  rcases hcase with ⟨rfl, hnone⟩ | ⟨k, hk, rfl, hsome⟩
  · have HN := Lib.hid hnone
    clear hnone
    go_wp2
    go_ret2
    exact ⟨by rw [HG.out, HN.out]; rfl, b1⟩
  · obtain ⟨a, rfl, hab, hc⟩ := (HF.out.below b1 (Nat.le_refl _)) (by omega)
    obtain ⟨c1, c2⟩ := hc k l[k] (List.getElem?_eq_getElem hk)
    obtain ⟨f, hf⟩ : ∃ f, f = l[k] := ⟨_, rfl⟩
    rw [← hf] at c1 c2 hsome
    have HS := Lib.hid hsome
    have q1 : ¬ (k : Int) < 0 := by omega
    clear hf hc hsome
    go_wp2
    go_ret2
    exact ⟨by rw [HG.out, HS.out]; rfl, b1⟩
set_option maxHeartbeats 1000000 in
set_option maxRecDepth 100000 in
/-- The same texts? Of two slices that hold the same. -/
theorem texts_any (l : List ByteArray) (A A' : Option Addr) (c c' : Nat) (w : World) (h1 : Texts w w.heap.size A l) (h2 : Texts w w.heap.size A' l) (hn : l.length ≤ 1000) :
    Calls Tryd.prog 40 #[.slice A l.length c, .slice A' l.length c'] w fun e w' => e = .returned (.bool true) ∧ Below w.heap.size w w' := by
  have H1 := Lib.hid h1
  have H2 := Lib.hid h2
  clear h1 h2
  go_enter Tryd.func40, Tryd.ntmps40
  go_wp2
  go_loopw [5] (fun i wr => ∃ k : Nat, k ≤ l.length ∧ i = .int .i64 k ∧ ∃ m, wr = w.drewN m) (fun i _ => l.length - (intOf i).toNat)
  case atStart => exact ⟨0, by omega, rfl, 0, rfl⟩
  case round =>
    obtain ⟨k, hk, rfl, m, rfl⟩ := hrel
    by_cases hlt : k < l.length
    · obtain ⟨a, rfl, hab, hc⟩ := H1.out (by omega)
      obtain ⟨a', rfl, hab', hc'⟩ := H2.out (by omega)
      have c1 := hc k l[k] (List.getElem?_eq_getElem hlt)
      have c2 := hc' k l[k] (List.getElem?_eq_getElem hlt)
      obtain ⟨f, hf⟩ : ∃ f, f = l[k] := ⟨_, rfl⟩
      rw [← hf] at c1 c2
      clear hf hc hc'
      have q1 : (0 : Int) ≤ (k : Int) := by omega
      have q2 : (k : Int) < (l.length : Int) := by omega
      go_wp2_with fail
      go_quiet (fail)
      go_wp2
      go_roundw
      case rel => exact ⟨k + 1, by omega, by go_num, _, rfl⟩
      case measure => simp [intOf]; omega
    · go_wp2
      go_ret
      exact ⟨rfl, below_drewN (Below.refl _ _) m⟩
end Go.Proofs.YtjpaajpjajoijaaDoor
