/- bloomeryref05.Diff. -/
import Derived.Test.YtjpaajpjajoijaaDoorTDiff
import Derived.Test.YtjpaajpjajoijaaDoorRCheck
import Derived.Test.YtjpaajpjajoijaaDoorRPut
namespace Go.Proofs.YtjpaajpjajoijaaDoor
set_option linter.unusedVariables false
open Go.RowKit
theorem allL_step (l m : List FileB) (k : Nat) (h : k < m.length) : allL l (m.take (k + 1)) = withL (allL l (m.take k)) (m[k]'h) := by
  unfold allL
  rw [List.take_succ_eq_append_getElem h, List.foldl_append]
  rfl
theorem allL_len (l : List FileB) : ∀ m : List FileB, (allL l m).length ≤ l.length + m.length := by
  intro m
  induction m generalizing l with
  | nil => exact Nat.le_refl _
  | cons y m ih =>
    have h1 := ih (withL l y)
    have h2 := withL_len l y
    show (allL (withL l y) m).length ≤ _
    rw [List.length_cons]
    omega
theorem filterMap_step {α β : Type} (g : α → Option β) (l : List α) (k : Nat) (h : k < l.length) : (l.take (k + 1)).filterMap g = (l.take k).filterMap g ++ (g (l[k]'h)).toList := by
  rw [List.take_succ_eq_append_getElem h, List.filterMap_append]
  congr 1
theorem files_grown {w w' : World} {B : Nat} {A : Option Addr} {l : List FileB} {row : Option Nat} (h : Files w B A l) (hg : w.grownBy w' row) (hB : B ≤ w.heap.size) (hne : 0 < l.length → ∀ a : Addr, A = some a → some a.block ≠ row) : Files w' B A l := fun h0 => by
  obtain ⟨a, ha, hab, hc⟩ := h h0
  refine ⟨a, ha, hab, fun j f hj => ?_⟩
  obtain ⟨h1, h2⟩ := hc j f hj
  have hb : (a.add (j * 2)).block = a.block := by rw [add_block]
  exact ⟨hg.cell h1 (by rw [hb]; exact hne h0 a ha), hg.cell (a := ⟨(a.add (j * 2)).block, (a.add (j * 2)).off + 1, none⟩) h2 (by show some (a.add (j * 2)).block ≠ row; rw [hb]; exact hne h0 a ha)⟩
/-- What became of files that may be no trees, as the document tells it. -/
def diffQ (l m : List FileB) : List Chg := if checkL l = 0 ∧ checkL m = 0 then diffR l m else []
theorem diffQ_eq (l m : List FileB) : diffQ l m = diffP l m := by
  unfold diffQ diffP
  by_cases h : checkL l = 0 ∧ checkL m = 0
  · rw [if_pos h, if_pos h, diff_eq ((checkL_iff l).1 h.1).2 ((checkL_iff m).1 h.2).2]
  · rw [if_neg h, if_neg h]
set_option maxHeartbeats 8000000 in
set_option maxRecDepth 100000 in
theorem rdiff_any (l m : List FileB) (A1 A2 : Option Addr) (k1 k2 : Nat) (w : World) (hF : Files w w.heap.size A1 l) (hG : Files w w.heap.size A2 m) (hs : Small l) (ht : Small m) (hl : l.length + m.length ≤ 900) :
    Calls Tryd.prog 43 #[.slice A1 l.length k1, .slice A2 m.length k2] w fun e w' => ∃ (A' : Option Addr) (cap : Nat), e = .returned (.slice A' (diffQ l m).length cap) ∧
      w'.ownsRow w.heap.size 30 2 (.slice A' (diffQ l m).length cap) (diffQ l m).length (ccells (diffQ l m)) ∧ Below w.heap.size w w' := by
  obtain ⟨i0, hi, hz0, hz1, hz2⟩ := info_parts info30p
  obtain ⟨W0, hW0⟩ : ∃ W0, W0 = w.alloc (.cells #[] 30) := ⟨_, rfl⟩
  have hown0 := World.ownsRow_lit (base := w.heap.size) (e := 30) (size := 2) w #[] 0 (Nat.le_refl _) (by decide) rfl
  have hBw : Below w.heap.size w W0 := by rw [hW0]; exact (Below.refl _ _).alloc (Nat.le_refl _) _
  have hz : w.heap.size + 1 ≤ W0.heap.size := by rw [hW0, World.size_alloc]; exact Nat.le_refl _
  rw [← hW0] at hown0
  have hfl := fun w' (hb : Below w.heap.size w w') => (hF.below hb (Nat.le_refl _)).more hb.size
  have hfm := fun w' (hb : Below w.heap.size w w') => (hG.below hb (Nat.le_refl _)).more hb.size
  have hck := fun w' hb => rcheck_any l A1 k1 w' (hfl w' hb) hs
  have hck2 := fun w' hb => rcheck_any m A2 k2 w' (hfm w' hb) ht
  have hg1 := fun p w' hb => rget_any l p A1 k1 w' (hfl w' hb) (by omega)
  have hg2 := fun p w' hb => rget_any m p A2 k2 w' (hfm w' hb) (by omega)
  have hpl : diffQ l m = if checkL l = 0 ∧ checkL m = 0 then diffR l m else [] := rfl
  obtain ⟨P, hP⟩ : ∃ P, P = diffQ l m := ⟨_, rfl⟩
  obtain ⟨C1, hC1⟩ : ∃ C1, C1 = checkL l := ⟨_, rfl⟩
  obtain ⟨C2, hC2⟩ : ∃ C2, C2 = checkL m := ⟨_, rfl⟩
  rw [← hP, ← hC1, ← hC2] at hpl
  simp only [← hC1] at hck
  simp only [← hC2] at hck2
  rw [← hP]
  have HCK := Lib.hid hck
  have HCK2 := Lib.hid hck2
  have HG1 := Lib.hid hg1
  have HG2 := Lib.hid hg2
  have HFL := Lib.hid hfl
  have HFM := Lib.hid hfm
  have HF := Lib.hid hF
  have HG := Lib.hid hG
  have HW0 := Lib.hid hW0
  have HOWN := Lib.hid hown0
  clear hck hck2 hP hC1 hC2 hF hG hfl hfm hg1 hg2 hW0 hown0
  by_cases hc1 : C1 = 0
  · by_cases hc2 : C2 = 0
    · rw [if_pos ⟨hc1, hc2⟩] at hpl
      subst hc1
      subst hc2
      have HP := Lib.hid hpl
      clear hpl
      go_enter Tryd.func43, Tryd.ntmps43
      go_wp2_with fail
      rw [← HW0.out]
      go_wp2_with (first
        | (go_at_call 15; (with_reducible refine (HCK.out W0 hBw).mono ?_); rintro e w1 ⟨rfl, b1⟩; have b1' := hBw.trans (b1.mono hBw.size); have own1 := own_below HOWN.out b1)
        | (go_at_call 15; (with_reducible refine (HCK2.out w1 b1').mono ?_); rintro e w2 ⟨rfl, b2⟩; have b2' := b1'.trans (b2.mono b1'.size); have own2 := own_below own1 b2))
      have hz2' : w.heap.size + 1 ≤ w2.heap.size := Nat.le_trans hz (Nat.le_trans b1.size b2.size)
      have hne0 : 0 < l.length → ∀ a, A1 = some a → a.block ≠ w.heap.size := fun h0 a ha => by
        obtain ⟨a', ha', hab, _⟩ := HF.out h0
        rw [ha'] at ha
        cases ha
        omega
      have HNE0 := Lib.hid hne0
      clear hne0 b1 b1' own1 b2
      go_loopw [6, 7, 27] (fun s6 _ s27 wr => ∃ (k n : Nat) (A' : Option Addr) (c : Nat), k ≤ m.length ∧ n ≤ l.length + k ∧ s27 = .int .i64 k ∧ s6 = .slice A' n c ∧ Hid (n = (allL l (m.take k)).length) ∧ Hid (Files wr wr.heap.size A' (allL l (m.take k))) ∧
        Hid (0 < (allL l (m.take k)).length → ∀ a, A' = some a → a.block ≠ w.heap.size) ∧ Below w.heap.size w wr ∧ w.heap.size + 1 ≤ wr.heap.size ∧ wr.ownsRow w.heap.size 30 2 (.slice (some ⟨w.heap.size, 0, none⟩) 0 0) 0 []) (fun _ _ s27 _ => m.length - (intOf s27).toNat)
      case atStart => exact ⟨0, l.length, A1, k1, by omega, by omega, rfl, rfl, Lib.hid rfl, Lib.hid (HFL.out _ b2'), HNE0, b2', hz2', own2⟩
      case round =>
        clear b2' hz2' own2 HNE0
        obtain ⟨k, n, A', c, hk, hnk, rfl, rfl, hn, hFA, hNE, hB, hZ, hown⟩ := hrel
        by_cases hlt : k < m.length
        · obtain ⟨a, rfl, hab, hc⟩ := (HFM.out wr hB) (by omega)
          obtain ⟨d1, d2⟩ := hc k m[k] (List.getElem?_eq_getElem hlt)
          have hst := allL_step l m k hlt
          obtain ⟨L, hL⟩ : ∃ L, L = allL l (m.take k) := ⟨_, rfl⟩
          obtain ⟨y, hy⟩ : ∃ y, y = m[k] := ⟨_, rfl⟩
          rw [← hL, ← hy] at hst
          rw [← hL] at hn hFA hNE
          rw [← hy] at d1 d2
          have hwi := with_any L y A' c wr hFA.out (by rw [← hn.out]; omega)
          rw [← hn.out] at hwi
          have hwl := withL_len L y
          rw [← hn.out] at hwl
          have HWI := Lib.hid hwi
          have HST := Lib.hid hst
          have i1 : (0 : Int) ≤ (k : Int) := by omega
          have i2 : (k : Int) < (m.length : Int) := by omega
          clear hc hst hL hy hwi
          go_wp2_with (go_at_call 66; (with_reducible refine HWI.out.mono ?_); rintro e w3 ⟨A3, cp3, rfl, own3, b3⟩; have f3 := Files.of_own own3)
          go_roundw
          case rel => exact ⟨k + 1, (withL L y).length, A3, cp3, by omega, by omega, by go_num, rfl, Lib.hid (by rw [HST.out]), Lib.hid (by rw [HST.out]; exact f3), Lib.hid (by rw [HST.out]; intro h0 a' ha'; have := (own3.lt a'.block (by rw [ha']; rfl)).1; omega), hB.trans (b3.mono hB.size), Nat.le_trans hZ b3.size, own_below hown b3⟩
          case measure => simp [intOf]; omega
        · have hfin : m.take k = m := List.take_of_length_le (by omega)
          rw [hfin] at hn hFA hNE
          have hall := allL_len l m
          have hpr : P = (allL l m).filterMap fun f => told l m f.1 := HP.out
          obtain ⟨L, hL⟩ : ∃ L, L = allL l m := ⟨_, rfl⟩
          rw [← hL] at hn hFA hNE hall hpr
          have HPR := Lib.hid hpr
          clear hfin hL hpr HP
          have hneo : ∀ a : Addr, 0 < n → A' = some a → (Value.slice (some ⟨w.heap.size, 0, none⟩) 0 0).ownBlock ≠ some a.block := fun a h0 ha e => by
            injection e with e
            exact hNE.out (by rw [← hn.out]; exact h0) a ha e.symm
          have HNO := Lib.hid hneo
          clear hneo hNE
          go_wp2
          go_loopw [5, 8, 9, 10, 11, 12, 13, 39] (fun o _ _ _ _ _ _ i wr => ∃ (k q : Nat) (Ao : Option Addr) (co : Nat), k ≤ n ∧ q ≤ k ∧ i = .int .i64 k ∧ o = .slice Ao q co ∧ Hid (q = ((L.take k).filterMap fun f => told l m f.1).length) ∧
            wr.ownsRow w.heap.size 30 2 (.slice Ao q co) q (ccells ((L.take k).filterMap fun f => told l m f.1)) ∧ Hid (Files wr wr.heap.size A' L) ∧ Hid (∀ a : Addr, 0 < n → A' = some a → (Value.slice Ao q co).ownBlock ≠ some a.block) ∧ Below w.heap.size w wr) (fun _ _ _ _ _ _ _ i _ => n - (intOf i).toNat)
          case atStart => exact ⟨0, 0, _, 0, by omega, by omega, rfl, rfl, Lib.hid rfl, hown, hFA, HNO, hB⟩
          case round =>
            clear hown hFA HNO hB hZ hnk hk hlt
            obtain ⟨k, q, Ao, co, hk, hqk, rfl, rfl, hq, hown, hFA, hNO, hB⟩ := hrel
            have hsz := hB.size
            by_cases hlt : k < n
            · have hkL : k < L.length := by rw [← hn.out]; exact hlt
              obtain ⟨a, rfl, hab, hc⟩ := hFA.out (by omega)
              obtain ⟨d1, d2⟩ := hc k L[k] (List.getElem?_eq_getElem hkL)
              have hst := filterMap_step (fun f => told l m f.1) L k hkL
              obtain ⟨f, hf⟩ : ∃ f, f = L[k] := ⟨_, rfl⟩
              rw [← hf] at d1 d2 hst
              have hg1 := HG1.out f.1 wr hB
              have hg2 := HG2.out f.1 wr hB
              have htd : told l m f.1 = if 0 < (if (getL m f.1).isSome = false then 2 else if (getL l f.1).isSome = false then 1 else if (optB (getL l f.1)).toList != (optB (getL m f.1)).toList then 3 else 0) then some (f.1, (if (getL m f.1).isSome = false then 2 else if (getL l f.1).isSome = false then 1 else if (optB (getL l f.1)).toList != (optB (getL m f.1)).toList then 3 else 0)) else none := rfl
              obtain ⟨X1, hX1⟩ : ∃ X1, X1 = optB (getL l f.1) := ⟨_, rfl⟩
              obtain ⟨Y1, hY1⟩ : ∃ Y1, Y1 = optB (getL m f.1) := ⟨_, rfl⟩
              obtain ⟨was, hwas⟩ : ∃ b, b = (getL l f.1).isSome := ⟨_, rfl⟩
              obtain ⟨is, his⟩ : ∃ b, b = (getL m f.1).isSome := ⟨_, rfl⟩
              rw [← hX1, ← hY1, ← hwas, ← his] at htd
              rw [← hX1, ← hwas] at hg1
              rw [← hY1, ← his] at hg2
              obtain ⟨T, hT⟩ : ∃ T, T = told l m f.1 := ⟨_, rfl⟩
              rw [← hT] at htd hst
              obtain ⟨xs, hxs⟩ : ∃ xs, xs = (L.take k).filterMap fun f => told l m f.1 := ⟨_, rfl⟩
              rw [← hxs] at hq hown hst
              have GG1 := Lib.hid hg1
              have GG2 := Lib.hid hg2
              have HST := Lib.hid hst
              have HLT := hown.lt
              have hav : (⟨wr.heap.size, 0, none⟩ : Addr) = ⟨wr.heap.size, 0, none⟩ := rfl
              have i1 : (0 : Int) ≤ (k : Int) := by omega
              have i2 : (k : Int) < (n : Int) := by omega
              have hno := fun h0 => hNO.out a h0 rfl
              have HNO := Lib.hid (hno (by omega))
              have hab' := hab
              clear hc hst hg1 hg2 hX1 hY1 hwas his hT hxs hno hav hf
              cases is with
              | false =>
                have htt : T = some (f.1, 2) := htd
                have HTT := Lib.hid htt
                clear htd htt
                go_wp2_with (first
                  | (go_at_call 20; (with_reducible refine GG1.out.mono ?_); rintro e w3 ⟨rfl, rfl⟩)
                  | (go_at_call 20; (with_reducible refine GG2.out.mono ?_); rintro e w3 ⟨rfl, rfl⟩)
                  | (at_builtin; refine wpList_append_lies _ rfl (.tmp 81) (.tmp 83) 26 rfl w.heap.size 30 i0 (.agg #[.string ⟨#[]⟩, .int .i64 0]) 2 24 Tryd.underlying26 hi hz0 hz1 hz2 rfl (by decide) (.slice Ao q co) q _ rfl ((hown.alloc _).alloc _) ⟨w3.heap.size + 1, 0, none⟩ 1 1 [.string f.1, .int .i64 2] rfl rfl (by have h5 := news_two (w3.alloc (.cells #[.string f.1, .int .i64 2] 30)) (.string f.1) (.int .i64 2) 30; rw [World.size_alloc] at h5; exact h5) (by simp [Value.oneCell']) (by decide) (by unfold maxLen; omega) (by omega) (by simp; omega) _ rfl ?_; intro g2 cap2 w4 hown4 hgrow4 hat4 hg4))
                go_roundw
                case rel =>
                  have hBA : Below w3.heap.size w3 ((w3.alloc (.cells #[.string f.1, .int .i64 2] 30)).alloc (.cells #[.string f.1, .int .i64 2] 30)) := ((Below.refl _ _).alloc (Nat.le_refl _) _).alloc (by simp) _
                  have hfg : Files w4 w4.heap.size (some a) L := (files_grown (hFA.out.below hBA (Nat.le_refl _)) hgrow4 (by simp; omega) (fun _ a' ha' => by cases ha'; exact fun e => HNO.out e.symm)).more (by have := hgrow4.size; simp at this; omega)
                  exact ⟨k + 1, q + 1, _, _, by omega, by omega, by go_num, rfl, Lib.hid (by rw [HST.out, HTT.out, List.length_append, ← hq.out]; rfl), by rw [HST.out, HTT.out]; simpa [ccells_append, ccells_one] using hown4, Lib.hid hfg, Lib.hid (fun a' h0 ha' => by
                    cases ha'
                    rcases hat4 with h5 | h5
                    · have h6 := HNO.out
                      rw [h5] at h6
                      exact h6
                    · intro e
                      simp [Value.ownBlock] at e
                      simp at h5
                      omega), (hB.trans (hBA.mono hsz)).grown hgrow4 (by simp; omega) (fun j e => (HLT j e).1)⟩
                case measure => simp [intOf]; omega
              | true =>
                cases was with
                | false =>
                  have htt : T = some (f.1, 1) := htd
                  have HTT := Lib.hid htt
                  clear htd htt
                  go_wp2_with (first
                    | (go_at_call 20; (with_reducible refine GG1.out.mono ?_); rintro e w3 ⟨rfl, rfl⟩)
                    | (go_at_call 20; (with_reducible refine GG2.out.mono ?_); rintro e w3 ⟨rfl, rfl⟩)
                    | (at_builtin; refine wpList_append_lies _ rfl (.tmp 81) (.tmp 83) 26 rfl w.heap.size 30 i0 (.agg #[.string ⟨#[]⟩, .int .i64 0]) 2 24 Tryd.underlying26 hi hz0 hz1 hz2 rfl (by decide) (.slice Ao q co) q _ rfl ((hown.alloc _).alloc _) ⟨w3.heap.size + 1, 0, none⟩ 1 1 [.string f.1, .int .i64 1] rfl rfl (by have h5 := news_two (w3.alloc (.cells #[.string f.1, .int .i64 1] 30)) (.string f.1) (.int .i64 1) 30; rw [World.size_alloc] at h5; exact h5) (by simp [Value.oneCell']) (by decide) (by unfold maxLen; omega) (by omega) (by simp; omega) _ rfl ?_; intro g2 cap2 w4 hown4 hgrow4 hat4 hg4))
                  go_roundw
                  case rel =>
                    have hBA : Below w3.heap.size w3 ((w3.alloc (.cells #[.string f.1, .int .i64 1] 30)).alloc (.cells #[.string f.1, .int .i64 1] 30)) := ((Below.refl _ _).alloc (Nat.le_refl _) _).alloc (by simp) _
                    have hfg : Files w4 w4.heap.size (some a) L := (files_grown (hFA.out.below hBA (Nat.le_refl _)) hgrow4 (by simp; omega) (fun _ a' ha' => by cases ha'; exact fun e => HNO.out e.symm)).more (by have := hgrow4.size; simp at this; omega)
                    exact ⟨k + 1, q + 1, _, _, by omega, by omega, by go_num, rfl, Lib.hid (by rw [HST.out, HTT.out, List.length_append, ← hq.out]; rfl), by rw [HST.out, HTT.out]; simpa [ccells_append, ccells_one] using hown4, Lib.hid hfg, Lib.hid (fun a' h0 ha' => by
                      cases ha'
                      rcases hat4 with h5 | h5
                      · have h6 := HNO.out
                        rw [h5] at h6
                        exact h6
                      · intro e
                        simp [Value.ownBlock] at e
                        simp at h5
                        omega), (hB.trans (hBA.mono hsz)).grown hgrow4 (by simp; omega) (fun j e => (HLT j e).1)⟩
                  case measure => simp [intOf]; omega
                | true =>
                  cases dd : X1.toList != Y1.toList with
                  | false =>
                    rw [dd] at htd
                    have dd2 : (X1.toList == Y1.toList) = true := by rw [bne] at dd; simpa using dd
                    have de : X1.toList = Y1.toList := beq_iff_eq.1 dd2
                    have DE := Lib.hid de
                    clear de
                    have htt : T = none := htd
                    have HTT := Lib.hid htt
                    clear htd htt
                    go_wp2_with (first
                      | (go_at_call 20; (with_reducible refine GG1.out.mono ?_); rintro e w3 ⟨rfl, rfl⟩)
                      | (go_at_call 20; (with_reducible refine GG2.out.mono ?_); rintro e w3 ⟨rfl, rfl⟩))
                    go_roundw
                    case rel =>
                      have hBA : Below w3.heap.size w3 (w3.alloc (.cells #[.string f.1, .int .i64 0] 30)) := (Below.refl _ _).alloc (Nat.le_refl _) _
                      exact ⟨k + 1, q, _, _, by omega, by omega, by go_num, rfl, Lib.hid (by rw [HST.out, HTT.out, Option.toList_none, List.append_nil]; exact hq.out), by rw [HST.out, HTT.out, Option.toList_none, List.append_nil]; exact hown.alloc _, Lib.hid ((hFA.out.below hBA (Nat.le_refl _)).more (by simp)), hNO, hB.trans (hBA.mono hsz)⟩
                    case measure => simp [intOf]; omega
                  | true =>
                    rw [dd] at htd
                    have de : ¬ X1.toList = Y1.toList := bne_iff_ne.1 dd
                    have dd2 : (X1.toList == Y1.toList) = false := beq_eq_false_iff_ne.2 de
                    have htt : T = some (f.1, 3) := htd
                    have HTT := Lib.hid htt
                    clear htd htt
                    go_wp2_with (first
                      | (go_at_call 20; (with_reducible refine GG1.out.mono ?_); rintro e w3 ⟨rfl, rfl⟩)
                      | (go_at_call 20; (with_reducible refine GG2.out.mono ?_); rintro e w3 ⟨rfl, rfl⟩)
                      | (at_builtin; refine wpList_append_lies _ rfl (.tmp 81) (.tmp 83) 26 rfl w.heap.size 30 i0 (.agg #[.string ⟨#[]⟩, .int .i64 0]) 2 24 Tryd.underlying26 hi hz0 hz1 hz2 rfl (by decide) (.slice Ao q co) q _ rfl ((hown.alloc _).alloc _) ⟨w3.heap.size + 1, 0, none⟩ 1 1 [.string f.1, .int .i64 3] rfl rfl (by have h5 := news_two (w3.alloc (.cells #[.string f.1, .int .i64 3] 30)) (.string f.1) (.int .i64 3) 30; rw [World.size_alloc] at h5; exact h5) (by simp [Value.oneCell']) (by decide) (by unfold maxLen; omega) (by omega) (by simp; omega) _ rfl ?_; intro g2 cap2 w4 hown4 hgrow4 hat4 hg4))
                    go_roundw
                    case rel =>
                      have hBA : Below w3.heap.size w3 ((w3.alloc (.cells #[.string f.1, .int .i64 3] 30)).alloc (.cells #[.string f.1, .int .i64 3] 30)) := ((Below.refl _ _).alloc (Nat.le_refl _) _).alloc (by simp) _
                      have hfg : Files w4 w4.heap.size (some a) L := (files_grown (hFA.out.below hBA (Nat.le_refl _)) hgrow4 (by simp; omega) (fun _ a' ha' => by cases ha'; exact fun e => HNO.out e.symm)).more (by have := hgrow4.size; simp at this; omega)
                      exact ⟨k + 1, q + 1, _, _, by omega, by omega, by go_num, rfl, Lib.hid (by rw [HST.out, HTT.out, List.length_append, ← hq.out]; rfl), by rw [HST.out, HTT.out]; simpa [ccells_append, ccells_one] using hown4, Lib.hid hfg, Lib.hid (fun a' h0 ha' => by
                        cases ha'
                        rcases hat4 with h5 | h5
                        · have h6 := HNO.out
                          rw [h5] at h6
                          exact h6
                        · intro e
                          simp [Value.ownBlock] at e
                          simp at h5
                          omega), (hB.trans (hBA.mono hsz)).grown hgrow4 (by simp; omega) (fun j e => (HLT j e).1)⟩
                    case measure => simp [intOf]; omega
            · have hfin : L.take k = L := List.take_of_length_le (by rw [← hn.out]; omega)
              rw [hfin, ← HPR.out] at hown hq
              have hq2 := hq.out
              subst hq2
              clear hfin
              go_wp2
              go_ret
              exact ⟨_, _, rfl, hown, hB⟩
    · rw [if_neg (fun h => hc2 h.2)] at hpl
      have q1 : (C2 != 0) = true := bne_iff_ne.2 hc2
      subst hc1
      subst hpl
      clear hc2
      go_enter Tryd.func43, Tryd.ntmps43
      go_wp2_with fail
      rw [← HW0.out]
      go_wp2_with (first
        | (go_at_call 15; (with_reducible refine (HCK.out W0 hBw).mono ?_); rintro e w1 ⟨rfl, b1⟩; have b1' := hBw.trans (b1.mono hBw.size); have own1 := own_below HOWN.out b1)
        | (go_at_call 15; (with_reducible refine (HCK2.out w1 b1').mono ?_); rintro e w2 ⟨rfl, b2⟩; have b2' := b1'.trans (b2.mono b1'.size); have own2 := own_below own1 b2))
      go_ret
      exact ⟨_, 0, rfl, own2, b2'⟩
  · rw [if_neg (fun h => hc1 h.1)] at hpl
    have q1 : (C1 != 0) = true := bne_iff_ne.2 hc1
    subst hpl
    clear hc1
    go_enter Tryd.func43, Tryd.ntmps43
    go_wp2_with fail
    rw [← HW0.out]
    go_wp2_with (go_at_call 15; (with_reducible refine (HCK.out W0 hBw).mono ?_); rintro e w1 ⟨rfl, b1⟩; have b1' := hBw.trans (b1.mono hBw.size); have own1 := own_below HOWN.out b1)
    go_ret
    exact ⟨_, 0, rfl, own1, b1'⟩
end Go.Proofs.YtjpaajpjajoijaaDoor
