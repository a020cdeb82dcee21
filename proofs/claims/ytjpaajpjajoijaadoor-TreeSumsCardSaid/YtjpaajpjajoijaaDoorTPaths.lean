/- tree.Paths, bloomeryref05.Paths, bloomerylaw05.fixed; the law TreeChecks, walked. -/
import Derived.Test.YtjpaajpjajoijaaDoorRCheck
namespace Go.Proofs.YtjpaajpjajoijaaDoor
set_option linter.unusedVariables false
open Go.RowKit
theorem own_below {w w1 : World} {base : Nat} {e : TypeId} {size n : Nat} {v : Value} {xs : List Value} (h : w.ownsRow base e size v n xs) (hb : Below w.heap.size w w1) : w1.ownsRow base e size v n xs :=
  h.kept (row := none) ⟨hb.os, hb.tape, hb.output, hb.size, fun i hi _ => hb.block i hi⟩ (by cases v.ownBlock <;> simp)
theorem own_more {w : World} {base base' : Nat} {e : TypeId} {size n : Nat} {v : Value} {xs : List Value} (h : w.ownsRow base e size v n xs) (hb : base' ≤ base) : w.ownsRow base' e size v n xs := by
  refine ⟨h.1, ?_⟩
  rcases h.2 with hn | ⟨g, cap, cur, rfl, hg, rest⟩
  · exact .inl hn
  · exact .inr ⟨g, cap, cur, rfl, Nat.le_trans hb hg, rest⟩
/-- A text as a value. -/
def Tv (s : ByteArray) : Value := .string s
/-- The slice at A holds the texts l, below block B. -/
def Texts (w : World) (B : Nat) (A : Option Addr) (l : List ByteArray) : Prop :=
  0 < l.length → ∃ a, A = some a ∧ a.block < B ∧ ∀ j s, l[j]? = some s → w.cell? (a.add j) = some (.string s)
theorem Texts.below {w w' : World} {B : Nat} {A : Option Addr} {l : List ByteArray} (h : Texts w B A l) {C : Nat} (hb : Below C w w') (hC : B ≤ C) : Texts w' B A l := fun h0 => by
  obtain ⟨a, rfl, hab, hc⟩ := h h0
  exact ⟨a, rfl, hab, fun j f hj => (hb.cell (p := a.add j) (by rw [add_block]; omega)).trans (hc j f hj)⟩
theorem Texts.of_own {w : World} {base : Nat} {A : Option Addr} {cap : Nat} {l : List ByteArray} (h : w.ownsRow base 9 1 (.slice A l.length cap) l.length (l.map Tv)) : Texts w w.heap.size A l := fun h0 => by
  rcases h.2 with ⟨h1, h2⟩ | ⟨g, cap', cur, hv, hb, hh, _⟩
  · omega
  · injection hv with hA _ _
    subst hA
    refine ⟨_, rfl, (Array.getElem?_eq_some_iff.1 hh).1, fun j s hj => ?_⟩
    exact h.cells (g := g) rfl j (.string s) (by rw [List.getElem?_map, hj]; rfl)
/-- The paths below a directory. -/
def pathsL (l : List FileB) (d : ByteArray) : List ByteArray := if checkL l = 0 then (l.map (·.1)).filter (fun p => underL p.data.toList d.data.toList) else []
theorem filter_take_succ {α : Type} (l : List α) (p : α → Bool) (k : Nat) (h : k < l.length) : (l.take (k + 1)).filter p = (l.take k).filter p ++ (if p (l[k]'h) then [l[k]'h] else []) := by
  rw [List.take_succ_eq_append_getElem h, List.filter_append]
  cases hp : p (l[k]'h) <;> simp [hp]
theorem info9p : (Tryd.prog.info? 9).map (fun i => (i.zero, i.size, i.bytes)) = some (some (.string ⟨#[]⟩), 1, 16) := by kernel_rfl
set_option maxHeartbeats 2000000 in
set_option maxRecDepth 100000 in
theorem tpaths_any (l : List FileB) (d : ByteArray) (A : Option Addr) (c : Nat) (w : World) (hF : Files w w.heap.size A l) (hs : Small l) (hd : d.size ≤ 300) :
    Calls Tryd.prog 41 #[.slice A l.length c, .string d] w fun e w' => ∃ (A' : Option Addr) (cap : Nat), e = .returned (.slice A' (pathsL l d).length cap) ∧
      w'.ownsRow w.heap.size 9 1 (.slice A' (pathsL l d).length cap) (pathsL l d).length ((pathsL l d).map Tv) ∧ Below w.heap.size w w' := by
  have hck := fun w c h => tcheck_any l A c w h hs
  obtain ⟨hn, hs⟩ := hs
  have hpl : pathsL l d = if checkL l = 0 then (l.map (·.1)).filter (fun p => underL p.data.toList d.data.toList) else [] := rfl
  obtain ⟨P, hP⟩ : ∃ P, P = pathsL l d := ⟨_, rfl⟩
  obtain ⟨C, hC⟩ : ∃ C, C = checkL l := ⟨_, rfl⟩
  rw [← hP, ← hC] at hpl
  rw [← hP]
  have hc2 : ∀ c, Calls Tryd.prog 25 #[.slice A l.length c] w fun e w' => e = .returned (.int .i64 C) ∧ Below w.heap.size w w' := fun c => by rw [hC]; exact hck w c hF
  have HF := Lib.hid hF
  have HS := Lib.hid hs
  have HCK := Lib.hid hc2
  clear hF hs hck hC hP hc2
  obtain ⟨i0, hi, hz0, hz1, hz2⟩ := info_parts info9p
  by_cases hC0 : C = 0
  · rw [if_pos hC0] at hpl
    subst hC0
    have HP := Lib.hid hpl
    clear hpl
    go_enter Tryd.func41, Tryd.ntmps41
    go_wp2_with (go_at_call 25; (with_reducible refine (HCK.out _).mono ?_); rintro e w1 ⟨rfl, b1⟩)
    go_loopw [5, 13] (fun o i wr => ∃ (k n : Nat) (A' : Option Addr) (cap : Nat), k ≤ l.length ∧ n ≤ k ∧ i = .int .i64 k ∧ o = .slice A' n cap ∧ Hid (n = (((l.map (·.1)).take k).filter (fun p => underL p.data.toList d.data.toList)).length) ∧
      wr.ownsRow w.heap.size 9 1 (.slice A' n cap) n ((((l.map (·.1)).take k).filter (fun p => underL p.data.toList d.data.toList)).map Tv) ∧ Below w.heap.size w wr) (fun _ i _ => l.length - (intOf i).toNat)
    case atStart => exact ⟨0, 0, none, 0, by omega, by omega, rfl, rfl, Lib.hid rfl, World.ownsRow_nil _ _ _ _, b1⟩
    case round =>
      obtain ⟨k, n, A', cap, hk, hnk, rfl, rfl, hnn, hown, hB⟩ := hrel
      by_cases hlt : k < l.length
      · obtain ⟨a, rfl, hab, hc⟩ := (HF.out.below hB (Nat.le_refl _)) (by omega)
        obtain ⟨c1, c2⟩ := hc k l[k] (List.getElem?_eq_getElem hlt)
        obtain ⟨s1, s2⟩ := HS.out l[k] (List.getElem_mem hlt)
        have hft := filter_take_succ (l.map (·.1)) (fun p => underL p.data.toList d.data.toList) k (by rw [List.length_map]; exact hlt)
        rw [List.getElem_map] at hft
        obtain ⟨f, hf⟩ : ∃ f, f = l[k] := ⟨_, rfl⟩
        rw [← hf] at c1 c2 s1 s2 hft
        have hu := fun w => punder_any f.1 d w (by omega) (by omega)
        obtain ⟨un, hun⟩ : ∃ un, un = underL f.1.data.toList d.data.toList := ⟨_, rfl⟩
        rw [← hun] at hu hft
        obtain ⟨xs, hxs⟩ : ∃ xs, xs = ((l.map (·.1)).take k).filter (fun p => underL p.data.toList d.data.toList) := ⟨_, rfl⟩
        rw [← hxs] at hnn hown hft
        have HU := Lib.hid hu
        have HFT := Lib.hid hft
        have hsz := hB.size
        have hbox := Blk.new wr 36 #[.string f.1, .string f.2]
        have hcb : ∀ w1, Below (wr.heap.size + 1) (wr.alloc (.cells #[.string f.1, .string f.2] 36)) w1 → w1.cell? ⟨wr.heap.size, 0, none⟩ = some (.string f.1) := fun w1 hb => ((hbox.below hb (by omega)).cell 0).trans rfl
        have hB0 : Below w.heap.size w (wr.alloc (.cells #[.string f.1, .string f.2] 36)) := hB.alloc hsz _
        have HC := Lib.hid hcb
        clear hf hc hu hun hft hxs hbox hcb
        cases un with
        | false =>
          go_wp2_with (go_at_call 30; (with_reducible refine (HU.out _).mono ?_); rintro e w1 ⟨rfl, b1⟩; simp only [World.size_alloc] at b1; have k0 := HC.out w1 b1)
          go_roundw
          case rel => exact ⟨k + 1, n, A', cap, by omega, by omega, by go_num, rfl, Lib.hid (by rw [HFT.out, hnn.out]; simp), by rw [HFT.out]; simpa using own_below (hown.alloc (.cells #[.string f.1, .string f.2] 36)) (by rw [World.size_alloc]; exact b1), hB0.trans (b1.mono (by omega))⟩
          case measure => simp [intOf]; omega
        | true =>
          go_wp2_with (first | (go_at_call 30; (with_reducible refine (HU.out _).mono ?_); rintro e w1 ⟨rfl, b1⟩; simp only [World.size_alloc] at b1; have k0 := HC.out w1 b1; have hown1 := own_below (hown.alloc (.cells #[.string f.1, .string f.2] 36)) (by rw [World.size_alloc]; exact b1); have b2 := hB0.trans (b1.mono (by omega)); have hsz1 := b2.size) | (at_builtin; refine wpList_append_lies _ rfl (.tmp 21) (.tmp 24) 47 rfl w.heap.size 9 i0 (.string ⟨#[]⟩) 1 16 Tryd.underlying47 hi hz0 hz1 hz2 rfl (by decide) (.slice A' n cap) n _ rfl (hown1.alloc _) ⟨w1.heap.size, 0, none⟩ 1 1 [.string f.1] rfl rfl (news_one _ _ _) (by simp [Value.oneCell']) (by decide) (by unfold maxLen; omega) (by omega) (by simp; omega) _ rfl ?_; intro g2 cap2 w2 hown2 hgrow hat hg2))
          go_roundw
          case rel => exact ⟨k + 1, n + 1, some ⟨g2, 0, none⟩, cap2, by omega, by omega, by go_num, rfl, Lib.hid (by rw [HFT.out, hnn.out]; simp), by rw [HFT.out]; simpa [Tv] using hown2, (b2.alloc hsz1 _).grown hgrow (by simp; omega) (fun j e => (hown1.lt _ e).1)⟩
          case measure => simp [intOf]; omega
      · have hfin : (l.map (·.1)).take k = l.map (·.1) := List.take_of_length_le (by rw [List.length_map]; omega)
        rw [hfin, ← HP.out] at hown hnn
        have hnn2 := hnn.out
        subst hnn2
        clear hfin
        go_wp2
        go_ret
        exact ⟨_, _, rfl, hown, hB⟩
  · rw [if_neg hC0] at hpl
    have q1 : (C != 0) = true := bne_iff_ne.2 hC0
    subst hpl
    clear hC0
    go_enter Tryd.func41, Tryd.ntmps41
    go_wp2_with (go_at_call 25; (with_reducible refine (HCK.out _).mono ?_); rintro e w1 ⟨rfl, b1⟩)
    go_ret
    exact ⟨none, 0, rfl, World.ownsRow_nil _ _ _ _, b1⟩
end Go.Proofs.YtjpaajpjajoijaaDoor
