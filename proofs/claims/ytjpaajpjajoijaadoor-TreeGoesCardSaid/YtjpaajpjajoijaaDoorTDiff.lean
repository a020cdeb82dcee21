/- tree.Diff. -/
import Derived.Test.YtjpaajpjajoijaaDoorTell
import Derived.Test.YtjpaajpjajoijaaDoorCheck
import Derived.Deep.QuietTactic
import Derived.BigQuiet
import Derived.Deep.LoopGhost
namespace Go.Proofs.YtjpaajpjajoijaaDoor
set_option linter.unusedVariables false
open Go.RowKit
/-- What became of files that may be no trees. -/
def diffP (l m : List FileB) : List Chg := if checkL l = 0 ∧ checkL m = 0 then diffT l m else []
theorem files_tail {w : World} {B : Nat} {a : Addr} {A' : Option Addr} {x : FileB} {l : List FileB} (h : Files w B (some a) (x :: l)) (hA : l ≠ [] → A' = some (a.add 2)) : Files w B A' l := fun h0 => by
  obtain ⟨a', ha, hab, hc⟩ := h (by simp)
  cases ha
  refine ⟨a.add 2, hA (by intro e; rw [e] at h0; simp at h0), by rw [add_block]; exact hab, fun j f hj => ?_⟩
  have := hc (j + 1) f (by simpa using hj)
  rw [show (j + 1) * 2 = 2 + j * 2 from by omega, ← add_of_add] at this
  exact this
theorem files_head {w : World} {B : Nat} {A : Option Addr} {x : FileB} {l : List FileB} (h : Files w B A (x :: l)) : ∃ a, A = some a ∧ a.block < B ∧ w.cell? a = some (.string x.1) ∧ w.cell? ⟨a.block, a.off + 1, none⟩ = some (.string x.2) := by
  obtain ⟨a, ha, hab, hc⟩ := h (by simp)
  obtain ⟨h1, h2⟩ := hc 0 x rfl
  have e0 : a.add (0 * 2) = a := by unfold Addr.add; simp
  rw [e0] at h1 h2
  exact ⟨a, ha, hab, h1, h2⟩
theorem told_drewN {w : World} {gb base n : Nat} {xs : List Chg} (h : ToldAt w gb base xs) : ToldAt (w.drewN n) gb base xs := ⟨h.box⟩
theorem tell_at (p : ByteArray) (k : Nat) (kk : Int) (hk : kk = (k : Int)) (xs : List Chg) (gb base : Nat) (w : World) (h : ToldAt w gb base xs) (hgb : gb < base) (hb : base ≤ w.heap.size) (hn : xs.length ≤ 1000) :
    Calls Tryd.prog 46 #[.string p, .int .i64 kk, .pointer (some ⟨gb, 0, none⟩)] w fun e w' => e = .returned (.tuple #[]) ∧ ToldAt w' gb base (xs ++ [(p, k)]) ∧ Below gb w w' := by
  subst hk
  exact tell_any p k xs gb base w h hgb hb hn
theorem list_head {l : List FileB} {n : Nat} (h : n = l.length) (h0 : 0 < n) : ∃ x l', l = x :: l' ∧ l'.length = n - 1 := by
  cases l with
  | nil => simp at h; omega
  | cons x l' => exact ⟨x, l', rfl, by simp at h; omega⟩
set_option maxHeartbeats 8000000 in
set_option maxRecDepth 100000 in
theorem tdiff_any (l m : List FileB) (A1 A2 : Option Addr) (k1 k2 : Nat) (w : World) (hF : Files w w.heap.size A1 l) (hG : Files w w.heap.size A2 m) (hs : Small l) (ht : Small m) (h1 : l.length ≤ k1) (h2 : m.length ≤ k2) (hl : l.length + m.length ≤ 1000) :
    Calls Tryd.prog 17 #[.slice A1 l.length k1, .slice A2 m.length k2] w fun e w' => ∃ (A' : Option Addr) (cap : Nat), e = .returned (.slice A' (diffP l m).length cap) ∧
      w'.ownsRow w.heap.size 30 2 (.slice A' (diffP l m).length cap) (diffP l m).length (ccells (diffP l m)) ∧ Below w.heap.size w w' := by
  have hck := tcheck_any l A1 k1 w hF hs
  have hck2 := fun w' hb => tcheck_any m A2 k2 w' ((hG.below (C := w.heap.size) (w' := w') hb (Nat.le_refl _)).more hb.size) ht
  have hpl : diffP l m = if checkL l = 0 ∧ checkL m = 0 then diffT l m else [] := rfl
  have hdl := diffT_len _ l m rfl
  obtain ⟨P, hP⟩ : ∃ P, P = diffP l m := ⟨_, rfl⟩
  obtain ⟨C1, hC1⟩ : ∃ C1, C1 = checkL l := ⟨_, rfl⟩
  obtain ⟨C2, hC2⟩ : ∃ C2, C2 = checkL m := ⟨_, rfl⟩
  rw [← hP, ← hC1, ← hC2] at hpl
  rw [← hC1] at hck
  simp only [← hC2] at hck2
  rw [← hP]
  have HCK := Lib.hid hck
  have HCK2 := Lib.hid hck2
  have HF := Lib.hid hF
  have HG := Lib.hid hG
  clear hck hck2 hP hC1 hC2 hF hG
  by_cases hc1 : C1 = 0
  · by_cases hc2 : C2 = 0
    · rw [if_pos ⟨hc1, hc2⟩] at hpl
      subst hc1
      subst hc2
      have HP := Lib.hid hpl
      rw [← hpl] at hdl
      have hpl' : P.length ≤ 1000 := by omega
      clear hpl hdl
      obtain ⟨n1, hn1⟩ : ∃ n1, n1 = l.length := ⟨_, rfl⟩
      obtain ⟨n2, hn2⟩ : ∃ n2, n2 = m.length := ⟨_, rfl⟩
      rw [← hn1] at h1 hl HCK ⊢
      rw [← hn2] at h2 hl HCK2 ⊢
      have HN1 := Lib.hid hn1
      have HN2 := Lib.hid hn2
      clear hn1 hn2
      go_enter Tryd.func17, Tryd.ntmps17
      go_wp2_with (first
        | (go_at_call 25; (with_reducible refine HCK.out.mono ?_); rintro e w1 ⟨rfl, b1⟩)
        | (go_at_call 25; (with_reducible refine (HCK2.out w1 b1).mono ?_); rintro e w2 ⟨rfl, b2⟩; have b2' := b1.trans (b2.mono b1.size)))
      obtain ⟨gb, hgb⟩ : ∃ gb, gb = w2.heap.size := ⟨_, rfl⟩
      have hgw : w.heap.size ≤ gb := by rw [hgb]; exact b2'.size
      have hT0 : ToldAt (w2.alloc (.cells #[.slice none 0 0] 26)) gb (gb + 1) [] := ⟨⟨none, 0, by rw [hgb]; exact Blk.new _ _ _, World.ownsRow_nil _ _ _ _⟩⟩
      have hB0 : Below w.heap.size w (w2.alloc (.cells #[.slice none 0 0] 26)) := b2'.alloc (b2'.size) _
      have hZ0 : gb + 1 ≤ (w2.alloc (.cells #[.slice none 0 0] 26)).heap.size := by rw [World.size_alloc, hgb]; exact Nat.le_refl _
      rw [← hgb]
      generalize w2.alloc (.cells #[.slice none 0 0] 26) = W0 at *
      clear b1 b2 b2' hgb
      go_loopg [0, 1] (n1 + n2) (fun kx s0 s1 wr => ∃ (l1 l2 : List FileB) (B1 B2 : Option Addr) (c1 c2 m1 m2 : Nat) (xs : List Chg), s0 = .slice B1 m1 c1 ∧ s1 = .slice B2 m2 c2 ∧ m1 ≤ c1 ∧ m2 ≤ c2 ∧ m1 + m2 ≤ kx ∧ xs.length ≤ 1000 ∧
        Hid (m1 = l1.length) ∧ Hid (m2 = l2.length) ∧ Hid (Files w w.heap.size B1 l1) ∧ Hid (Files w w.heap.size B2 l2) ∧ Hid (xs ++ diffT l1 l2 = P) ∧ ToldAt wr gb (gb + 1) xs ∧ Below w.heap.size w wr ∧ gb + 1 ≤ wr.heap.size)
      case atStart => exact ⟨l, m, _, _, _, _, _, _, [], rfl, rfl, h1, h2, Nat.le_refl _, by simp, HN1, HN2, HF, HG, Lib.hid HP.out.symm, hT0, hB0, hZ0⟩
      case round =>
        clear hT0 hB0 hZ0 HN1 HN2 HF HG h1 h2
        obtain ⟨l1, l2, B1, B2, c1, c2, m1, m2, xs, rfl, rfl, hm1, hm2, hkx, hxl, HM1, HM2, HF1, HF2, HX, hT, hB, hZ⟩ := hrel
        have hsz := hB.size
        by_cases z1 : 0 < m1
        · obtain ⟨x, l1', hx, hl1⟩ := list_head HM1.out z1
          have HXL := Lib.hid hx
          rw [hx] at HF1 HX
          obtain ⟨a, rfl, hab, a1, a2⟩ := files_head HF1.out
          have ha : ∀ w', Below w.heap.size w w' → w'.cell? a = some (.string x.1) ∧ w'.cell? ⟨a.block, a.off + 1, none⟩ = some (.string x.2) := fun w' hb => ⟨(hb.cell hab).trans a1, (hb.cell (p := ⟨a.block, a.off + 1, none⟩) hab).trans a2⟩
          have HA := Lib.hid ha
          have HL1 := Lib.hid hl1
          clear ha a1 a2 hx hl1
          obtain ⟨ha10, ha20⟩ := HA.out wr hB
          by_cases z2 : 0 < m2
          · obtain ⟨y, l2', hy, hl2⟩ := list_head HM2.out z2
            have HYL := Lib.hid hy
            rw [hy] at HF2 HX
            obtain ⟨b, rfl, hbb, b1, b2⟩ := files_head HF2.out
            have hb : ∀ w', Below w.heap.size w w' → w'.cell? b = some (.string y.1) ∧ w'.cell? ⟨b.block, b.off + 1, none⟩ = some (.string y.2) := fun w' hc => ⟨(hc.cell hbb).trans b1, (hc.cell (p := ⟨b.block, b.off + 1, none⟩) hbb).trans b2⟩
            have HB := Lib.hid hb
            have HL2 := Lib.hid hl2
            clear hb b1 b2 hy hl2
            obtain ⟨hb10, hb20⟩ := HB.out wr hB
            have q2 : ¬ (m1 : Int) = 0 := by omega
            have q3 : (0 : Int) < (m1 : Int) := by omega
            have q4 : ((m1 : Int) == 0) = false := beq_eq_false_iff_ne.2 q2
            have r2 : ¬ (m2 : Int) = 0 := by omega
            have r3 : (0 : Int) < (m2 : Int) := by omega
            have r4 : ((m2 : Int) == 0) = false := beq_eq_false_iff_ne.2 r2
            cases lt1 : ltB x.1 y.1 with
            | true =>
              have LT1 := Lib.hid lt1
              have lt1' : Op.bytesLess x.1.toList y.1.toList = true := lt1
              clear lt1
              go_wp2_with fail
              go_quiet (fail)
              have hT1 := told_drewN (n := nq) hT
              have hB1 := below_drewN hB nq
              have hZ1 : gb + 1 ≤ (wr.drewN nq).heap.size := hZ
              obtain ⟨ha11, ha21⟩ := HA.out _ hB1
              obtain ⟨hb11, hb21⟩ := HB.out _ hB1
              generalize wr.drewN nq = W1 at *
              have hxl2 : (xs ++ [(x.1, 2)]).length ≤ 1000 := by
                have h5 := congrArg List.length HX.out
                rw [diffT_gone (.inr ⟨y, l2', rfl, LT1.out⟩), List.length_append, List.length_cons] at h5
                rw [List.length_append, List.length_singleton]
                omega
              have HXN : Hid ((xs ++ [(x.1, 2)]) ++ diffT l1' (y :: l2') = P) := Lib.hid (by rw [← HX.out, diffT_gone (.inr ⟨y, l2', rfl, LT1.out⟩), List.append_assoc]; rfl)
              have t1 : (1 : Int) ≤ (m1 : Int) := by omega
              have hlast : ∀ B', (¬ c1 = 1 → B' = some (a.add 2)) → Files w w.heap.size B' l1' := fun B' h5 => files_tail HF1.out fun hne => h5 (fun e => hne (List.eq_nil_of_length_eq_zero (by rw [HL1.out]; omega)))
              have HLA := Lib.hid hlast
              clear hlast
              have TL := Lib.hid (tell_at x.1 2 2 rfl xs gb (gb + 1) _ hT1 (Nat.lt_succ_self _) hZ1 hxl)
              go_wp2_with (go_at_call 46; (with_reducible refine TL.out.mono ?_); rintro e w3 ⟨rfl, hT3, b3⟩; have b3' := hB1.trans (b3.mono hgw); have z3 : gb + 1 ≤ w3.heap.size := Nat.le_trans hZ1 b3.size)
              all_goals (go_roundg (m1 - 1 + m2))
              all_goals first
                | omega
                | (refine ⟨l1', (y :: l2'), _, _, _, _, _, _, xs ++ [(x.1, 2)], rfl, rfl, by omega, hm2, Nat.le_refl _, hxl2, Lib.hid HL1.out.symm, Lib.hid (by rw [← HYL.out]; exact HM2.out), Lib.hid (HLA.out _ ?_), HF2, HXN, hT3, b3', z3⟩; first | exact fun _ => rfl | exact fun h5 => absurd (by assumption) h5)
            | false =>
              cases lt2 : ltB y.1 x.1 with
              | true =>
                have LT1 := Lib.hid lt1
                have LT2 := Lib.hid lt2
                have lt1' : Op.bytesLess x.1.toList y.1.toList = false := lt1
                have lt2' : Op.bytesLess y.1.toList x.1.toList = true := lt2
                clear lt1 lt2
                go_wp2_with fail
                go_quiet (fail)
                have hT1 := told_drewN (n := nq) hT
                have hB1 := below_drewN hB nq
                have hZ1 : gb + 1 ≤ (wr.drewN nq).heap.size := hZ
                obtain ⟨ha11, ha21⟩ := HA.out _ hB1
                obtain ⟨hb11, hb21⟩ := HB.out _ hB1
                generalize wr.drewN nq = W1 at *
                go_wp2_with fail
                go_quiet (fail)
                have hT2 := told_drewN (n := nq) hT1
                have hB2 := below_drewN hB1 nq
                have hZ2 : gb + 1 ≤ (W1.drewN nq).heap.size := hZ1
                obtain ⟨ha12, ha22⟩ := HA.out _ hB2
                obtain ⟨hb12, hb22⟩ := HB.out _ hB2
                generalize W1.drewN nq = W2 at *
                have hxl2 : (xs ++ [(y.1, 1)]).length ≤ 1000 := by
                  have h5 := congrArg List.length HX.out
                  rw [diffT_added (.inr ⟨x, l1', rfl, LT1.out, LT2.out⟩), List.length_append, List.length_cons] at h5
                  rw [List.length_append, List.length_singleton]
                  omega
                have HXN : Hid ((xs ++ [(y.1, 1)]) ++ diffT (x :: l1') l2' = P) := Lib.hid (by rw [← HX.out, diffT_added (.inr ⟨x, l1', rfl, LT1.out, LT2.out⟩), List.append_assoc]; rfl)
                have t1 : (1 : Int) ≤ (m2 : Int) := by omega
                have hlast2 : ∀ B', (¬ c2 = 1 → B' = some (b.add 2)) → Files w w.heap.size B' l2' := fun B' h5 => files_tail HF2.out fun hne => h5 (fun e => hne (List.eq_nil_of_length_eq_zero (by rw [HL2.out]; omega)))
                have HLB := Lib.hid hlast2
                clear hlast2
                have TL := Lib.hid (tell_at y.1 1 1 rfl xs gb (gb + 1) _ hT2 (Nat.lt_succ_self _) hZ2 hxl)
                go_wp2_with (go_at_call 46; (with_reducible refine TL.out.mono ?_); rintro e w3 ⟨rfl, hT3, b3⟩; have b3' := hB2.trans (b3.mono hgw); have z3 : gb + 1 ≤ w3.heap.size := Nat.le_trans hZ2 b3.size)
                all_goals (go_roundg (m1 + (m2 - 1)))
                all_goals first
                  | omega
                  | (refine ⟨(x :: l1'), l2', _, _, _, _, _, _, xs ++ [(y.1, 1)], rfl, rfl, hm1, by omega, Nat.le_refl _, hxl2, Lib.hid (by rw [← HXL.out]; exact HM1.out), Lib.hid HL2.out.symm, HF1, Lib.hid (HLB.out _ ?_), HXN, hT3, b3', z3⟩; first | exact fun _ => rfl | exact fun h5 => absurd (by assumption) h5)
              | false =>
                have lt1' : Op.bytesLess x.1.toList y.1.toList = false := lt1
                have lt2' : Op.bytesLess y.1.toList x.1.toList = false := lt2
                have hdb := diffT_both (x := x) (y := y) (a := l1') (b := l2') lt1 lt2
                have t1 : (1 : Int) ≤ (m1 : Int) := by omega
                have t2 : (1 : Int) ≤ (m2 : Int) := by omega
                have hlast : ∀ B', (¬ c1 = 1 → B' = some (a.add 2)) → Files w w.heap.size B' l1' := fun B' h5 => files_tail HF1.out fun hne => h5 (fun e => hne (List.eq_nil_of_length_eq_zero (by rw [HL1.out]; omega)))
                have HLA := Lib.hid hlast
                clear hlast
                have hlast2 : ∀ B', (¬ c2 = 1 → B' = some (b.add 2)) → Files w w.heap.size B' l2' := fun B' h5 => files_tail HF2.out fun hne => h5 (fun e => hne (List.eq_nil_of_length_eq_zero (by rw [HL2.out]; omega)))
                have HLB := Lib.hid hlast2
                clear hlast2
                cases dd : x.2.toList != y.2.toList with
                | false =>
                  have de : x.2.toList = y.2.toList := by simpa using dd
                  have dd2 : (x.2.toList == y.2.toList) = true := beq_iff_eq.2 de
                  have DE := Lib.hid de
                  clear de
                  rw [dd] at hdb
                  have HXN : Hid (xs ++ diffT l1' l2' = P) := Lib.hid (by rw [← HX.out, hdb]; rfl)
                  clear hdb lt1 lt2
                  go_wp2_with fail
                  go_quiet (fail)
                  have hT1 := told_drewN (n := nq) hT
                  have hB1 := below_drewN hB nq
                  have hZ1 : gb + 1 ≤ (wr.drewN nq).heap.size := hZ
                  obtain ⟨ha11, ha21⟩ := HA.out _ hB1
                  obtain ⟨hb11, hb21⟩ := HB.out _ hB1
                  generalize wr.drewN nq = W1 at *
                  go_wp2_with fail
                  go_quiet (fail)
                  have hT2 := told_drewN (n := nq) hT1
                  have hB2 := below_drewN hB1 nq
                  have hZ2 : gb + 1 ≤ (W1.drewN nq).heap.size := hZ1
                  obtain ⟨ha12, ha22⟩ := HA.out _ hB2
                  obtain ⟨hb12, hb22⟩ := HB.out _ hB2
                  generalize W1.drewN nq = W2 at *
                  go_wp2_with fail
                  go_quiet (fail)
                  have hT3 := told_drewN (n := nq) hT2
                  have hB3 := below_drewN hB2 nq
                  have hZ3 : gb + 1 ≤ (W2.drewN nq).heap.size := hZ2
                  obtain ⟨ha13, ha23⟩ := HA.out _ hB3
                  obtain ⟨hb13, hb23⟩ := HB.out _ hB3
                  generalize W2.drewN nq = W3 at *
                  go_wp2_with fail
                  go_quiet (fail)
                  have hT4 := told_drewN (n := nq) hT3
                  have hB4 := below_drewN hB3 nq
                  have hZ4 : gb + 1 ≤ (W3.drewN nq).heap.size := hZ3
                  obtain ⟨ha14, ha24⟩ := HA.out _ hB4
                  obtain ⟨hb14, hb24⟩ := HB.out _ hB4
                  generalize W3.drewN nq = W4 at *
                  go_wp2_with fail
                  all_goals (go_roundg (m1 - 1 + (m2 - 1)))
                  all_goals first
                    | omega
                    | (refine ⟨l1', l2', _, _, _, _, _, _, xs, rfl, rfl, by omega, by omega, Nat.le_refl _, hxl, Lib.hid HL1.out.symm, Lib.hid HL2.out.symm, Lib.hid (HLA.out _ ?_), Lib.hid (HLB.out _ ?_), HXN, hT4, hB4, hZ4⟩ <;> (first | exact fun _ => rfl | exact fun h5 => absurd (by assumption) h5))
                | true =>
                  have de : ¬ x.2.toList = y.2.toList := bne_iff_ne.1 dd
                  have dd2 : (x.2.toList == y.2.toList) = false := beq_eq_false_iff_ne.2 de
                  rw [dd] at hdb
                  have hxl2 : (xs ++ [(x.1, 3)]).length ≤ 1000 := by
                    have h5 := congrArg List.length HX.out
                    rw [hdb, if_pos rfl, List.length_append, List.length_append] at h5
                    rw [List.length_append]
                    omega
                  have HXN : Hid ((xs ++ [(x.1, 3)]) ++ diffT l1' l2' = P) := Lib.hid (by rw [← HX.out, hdb, List.append_assoc]; rfl)
                  clear hdb lt1 lt2
                  go_wp2_with fail
                  go_quiet (fail)
                  have hT1 := told_drewN (n := nq) hT
                  have hB1 := below_drewN hB nq
                  have hZ1 : gb + 1 ≤ (wr.drewN nq).heap.size := hZ
                  obtain ⟨ha11, ha21⟩ := HA.out _ hB1
                  obtain ⟨hb11, hb21⟩ := HB.out _ hB1
                  generalize wr.drewN nq = W1 at *
                  go_wp2_with fail
                  go_quiet (fail)
                  have hT2 := told_drewN (n := nq) hT1
                  have hB2 := below_drewN hB1 nq
                  have hZ2 : gb + 1 ≤ (W1.drewN nq).heap.size := hZ1
                  obtain ⟨ha12, ha22⟩ := HA.out _ hB2
                  obtain ⟨hb12, hb22⟩ := HB.out _ hB2
                  generalize W1.drewN nq = W2 at *
                  go_wp2_with fail
                  go_quiet (fail)
                  have hT3 := told_drewN (n := nq) hT2
                  have hB3 := below_drewN hB2 nq
                  have hZ3 : gb + 1 ≤ (W2.drewN nq).heap.size := hZ2
                  obtain ⟨ha13, ha23⟩ := HA.out _ hB3
                  obtain ⟨hb13, hb23⟩ := HB.out _ hB3
                  generalize W2.drewN nq = W3 at *
                  have TL := Lib.hid (tell_at x.1 3 3 rfl xs gb (gb + 1) _ hT3 (Nat.lt_succ_self _) hZ3 hxl)
                  go_wp2_with (go_at_call 46; (with_reducible refine TL.out.mono ?_); rintro e w3 ⟨rfl, hT3, b3⟩; have b3' := hB3.trans (b3.mono hgw); have z3 : gb + 1 ≤ w3.heap.size := Nat.le_trans hZ3 b3.size)
                  go_wp2_with fail
                  go_quiet (fail)
                  have hT4 := told_drewN (n := nq) hT3
                  have hB4 := below_drewN b3' nq
                  have hZ4 : gb + 1 ≤ (w3.drewN nq).heap.size := z3
                  obtain ⟨ha14, ha24⟩ := HA.out _ hB4
                  obtain ⟨hb14, hb24⟩ := HB.out _ hB4
                  generalize w3.drewN nq = W4 at *
                  go_wp2_with fail
                  all_goals (go_roundg (m1 - 1 + (m2 - 1)))
                  all_goals first
                    | omega
                    | (refine ⟨l1', l2', _, _, _, _, _, _, xs ++ [(x.1, 3)], rfl, rfl, by omega, by omega, Nat.le_refl _, hxl2, Lib.hid HL1.out.symm, Lib.hid HL2.out.symm, Lib.hid (HLA.out _ ?_), Lib.hid (HLB.out _ ?_), HXN, hT4, hB4, hZ4⟩ <;> (first | exact fun _ => rfl | exact fun h5 => absurd (by assumption) h5))
          · have z2' : m2 = 0 := by omega
            have hl2 : l2 = [] := List.eq_nil_of_length_eq_zero (by rw [← HM2.out]; exact z2')
            have HL2 := Lib.hid hl2
            have q2 : ¬ (m1 : Int) = 0 := by omega
            have q3 : (0 : Int) < (m1 : Int) := by omega
            have q4 : ((m1 : Int) == 0) = false := beq_eq_false_iff_ne.2 q2
            have r1 : (m2 : Int) = 0 := by omega
            have r4 : ((m2 : Int) == 0) = true := by rw [r1]; rfl
            have r5 : ¬ (0 : Int) < (m2 : Int) := by omega
            clear hl2 z2 z2'
            go_wp2_with fail
            go_quiet (fail)
            have hT1 := told_drewN (n := nq) hT
            have hB1 := below_drewN hB nq
            have hZ1 : gb + 1 ≤ (wr.drewN nq).heap.size := hZ
            obtain ⟨ha11, ha21⟩ := HA.out _ hB1
            generalize wr.drewN nq = W1 at *
            have hxl2 : (xs ++ [(x.1, 2)]).length ≤ 1000 := by
              have h5 := congrArg List.length HX.out
              rw [diffT_gone (.inl HL2.out), List.length_append, List.length_cons] at h5
              rw [List.length_append, List.length_singleton]
              omega
            have HXN : Hid ((xs ++ [(x.1, 2)]) ++ diffT l1' l2 = P) := Lib.hid (by rw [← HX.out, diffT_gone (.inl HL2.out), List.append_assoc]; rfl)
            have t1 : (1 : Int) ≤ (m1 : Int) := by omega
            have hlast : ∀ B', (¬ c1 = 1 → B' = some (a.add 2)) → Files w w.heap.size B' l1' := fun B' h5 => files_tail HF1.out fun hne => h5 (fun e => hne (List.eq_nil_of_length_eq_zero (by rw [HL1.out]; omega)))
            have HLA := Lib.hid hlast
            clear hlast
            have TL := Lib.hid (tell_at x.1 2 2 rfl xs gb (gb + 1) _ hT1 (Nat.lt_succ_self _) hZ1 hxl)
            go_wp2_with (go_at_call 46; (with_reducible refine TL.out.mono ?_); rintro e w3 ⟨rfl, hT3, b3⟩; have b3' := hB1.trans (b3.mono hgw); have z3 : gb + 1 ≤ w3.heap.size := Nat.le_trans hZ1 b3.size)
            all_goals (go_roundg (m1 - 1 + m2))
            all_goals first
              | omega
              | (refine ⟨l1', l2, _, _, _, _, _, _, xs ++ [(x.1, 2)], rfl, rfl, by omega, hm2, Nat.le_refl _, hxl2, Lib.hid HL1.out.symm, HM2, Lib.hid (HLA.out _ ?_), HF2, HXN, hT3, b3', z3⟩; first | exact fun _ => rfl | exact fun h5 => absurd (by assumption) h5)
        · have z1' : m1 = 0 := by omega
          have hl1 : l1 = [] := List.eq_nil_of_length_eq_zero (by rw [← HM1.out]; exact z1')
          have HL1 := Lib.hid hl1
          clear hl1
          by_cases z2 : 0 < m2
          · obtain ⟨y, l2', hy, hl2⟩ := list_head HM2.out z2
            have HYL := Lib.hid hy
            rw [hy] at HF2 HX
            obtain ⟨b, rfl, hbb, b1, b2⟩ := files_head HF2.out
            have hb : ∀ w', Below w.heap.size w w' → w'.cell? b = some (.string y.1) ∧ w'.cell? ⟨b.block, b.off + 1, none⟩ = some (.string y.2) := fun w' hc => ⟨(hc.cell hbb).trans b1, (hc.cell (p := ⟨b.block, b.off + 1, none⟩) hbb).trans b2⟩
            have HB := Lib.hid hb
            have HL2 := Lib.hid hl2
            clear hb b1 b2 hy hl2
            obtain ⟨hb10, hb20⟩ := HB.out wr hB
            have q1 : (m1 : Int) = 0 := by omega
            have q4 : ((m1 : Int) == 0) = true := by rw [q1]; rfl
            have q5 : ¬ (0 : Int) < (m1 : Int) := by omega
            have r2 : ¬ (m2 : Int) = 0 := by omega
            have r3 : (0 : Int) < (m2 : Int) := by omega
            have r4 : ((m2 : Int) == 0) = false := beq_eq_false_iff_ne.2 r2
            clear z1 z1'
            go_wp2_with fail
            go_quiet (fail)
            have hT1 := told_drewN (n := nq) hT
            have hB1 := below_drewN hB nq
            have hZ1 : gb + 1 ≤ (wr.drewN nq).heap.size := hZ
            obtain ⟨hb11, hb21⟩ := HB.out _ hB1
            generalize wr.drewN nq = W1 at *
            go_wp2_with fail
            go_quiet (fail)
            have hT2 := told_drewN (n := nq) hT1
            have hB2 := below_drewN hB1 nq
            have hZ2 : gb + 1 ≤ (W1.drewN nq).heap.size := hZ1
            obtain ⟨hb12, hb22⟩ := HB.out _ hB2
            generalize W1.drewN nq = W2 at *
            have hxl2 : (xs ++ [(y.1, 1)]).length ≤ 1000 := by
              have h5 := congrArg List.length HX.out
              rw [diffT_added (.inl HL1.out), List.length_append, List.length_cons] at h5
              rw [List.length_append, List.length_singleton]
              omega
            have HXN : Hid ((xs ++ [(y.1, 1)]) ++ diffT l1 l2' = P) := Lib.hid (by rw [← HX.out, diffT_added (.inl HL1.out), List.append_assoc]; rfl)
            have t1 : (1 : Int) ≤ (m2 : Int) := by omega
            have hlast2 : ∀ B', (¬ c2 = 1 → B' = some (b.add 2)) → Files w w.heap.size B' l2' := fun B' h5 => files_tail HF2.out fun hne => h5 (fun e => hne (List.eq_nil_of_length_eq_zero (by rw [HL2.out]; omega)))
            have HLB := Lib.hid hlast2
            clear hlast2
            have TL := Lib.hid (tell_at y.1 1 1 rfl xs gb (gb + 1) _ hT2 (Nat.lt_succ_self _) hZ2 hxl)
            go_wp2_with (go_at_call 46; (with_reducible refine TL.out.mono ?_); rintro e w3 ⟨rfl, hT3, b3⟩; have b3' := hB2.trans (b3.mono hgw); have z3 : gb + 1 ≤ w3.heap.size := Nat.le_trans hZ2 b3.size)
            all_goals (go_roundg (m1 + (m2 - 1)))
            all_goals first
              | omega
              | (refine ⟨l1, l2', _, _, _, _, _, _, xs ++ [(y.1, 1)], rfl, rfl, hm1, by omega, Nat.le_refl _, hxl2, HM1, Lib.hid HL2.out.symm, HF1, Lib.hid (HLB.out _ ?_), HXN, hT3, b3', z3⟩; first | exact fun _ => rfl | exact fun h5 => absurd (by assumption) h5)
          · have hl2 : l2 = [] := List.eq_nil_of_length_eq_zero (by rw [← HM2.out]; omega)
            have hxp : xs = P := by
              have h5 := HX.out
              rw [HL1.out, hl2, diffT] at h5
              simpa using h5
            have q1 : (m1 : Int) = 0 := by omega
            have q4 : ((m1 : Int) == 0) = true := by rw [q1]; rfl
            have q5 : ¬ (0 : Int) < (m1 : Int) := by omega
            have r1 : (m2 : Int) = 0 := by omega
            have r4 : ((m2 : Int) == 0) = true := by rw [r1]; rfl
            have r5 : ¬ (0 : Int) < (m2 : Int) := by omega
            obtain ⟨A5, c5, hbox, hown⟩ := hT.box
            have k0 : wr.cell? ⟨gb, 0, none⟩ = some (.slice A5 xs.length c5) := (hbox.cell 0).trans rfl
            have HXP := Lib.hid hxp
            clear hl2 hxp z1 z2 z1' hbox
            go_wp2_with fail
            go_ret
            rw [← HXP.out]
            exact ⟨_, _, rfl, own_more hown (by omega), hB⟩
    · rw [if_neg (fun h => hc2 h.2)] at hpl
      have q1 : (C2 != 0) = true := bne_iff_ne.2 hc2
      subst hc1
      subst hpl
      clear hc2
      go_enter Tryd.func17, Tryd.ntmps17
      go_wp2_with (first
        | (go_at_call 25; (with_reducible refine HCK.out.mono ?_); rintro e w1 ⟨rfl, b1⟩)
        | (go_at_call 25; (with_reducible refine (HCK2.out w1 b1).mono ?_); rintro e w2 ⟨rfl, b2⟩; have b2' := b1.trans (b2.mono b1.size)))
      go_ret
      exact ⟨none, 0, rfl, World.ownsRow_nil _ _ _ _, b2'⟩
  · rw [if_neg (fun h => hc1 h.1)] at hpl
    have q1 : (C1 != 0) = true := bne_iff_ne.2 hc1
    subst hpl
    clear hc1
    go_enter Tryd.func17, Tryd.ntmps17
    go_wp2_with (go_at_call 25; (with_reducible refine HCK.out.mono ?_); rintro e w1 ⟨rfl, b1⟩)
    go_ret
    exact ⟨none, 0, rfl, World.ownsRow_nil _ _ _ _, b1⟩
end Go.Proofs.YtjpaajpjajoijaaDoor
