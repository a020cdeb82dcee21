/- The law TreeGoes, walked. -/
import Derived.Test.YtjpaajpjajoijaaDoorGoesL
import Derived.Test.YtjpaajpjajoijaaDoorDiffs
import Derived.Test.YtjpaajpjajoijaaDoorPuts
import Derived.Test.YtjpaajpjajoijaaDoorMay
namespace Go.Proofs.YtjpaajpjajoijaaDoor
set_option linter.unusedVariables false
open Go.RowKit
set_option maxRecDepth 100000 in
theorem wpList_append_clone {w : World} {ops : Array Oper} {rest : List Oper} {o : Oper} {a : Act} {Q : Exit → Act → World → Prop} (hgd : o.guard = none) (s x : Operand)
    (ho : o.op = .call { callee := .builtin .append, args := #[s, x], argTypes := #[22, 22] }) (l : List FileB) (A : Option Addr) (n c b B : Nat) (hln : n = l.length) (hx : a.eval x = .slice A n c) (hs : a.eval s = .slice (some ⟨b, 0, none⟩) 0 0)
    (hown : w.ownsRow B 36 2 (.slice (some ⟨b, 0, none⟩) 0 0) 0 []) (hF : Files w w.heap.size A l) (hn : l.length ≤ 1000) (hB : B ≤ w.heap.size)
    (h : ∀ g cap w', w'.ownsRow B 36 2 (.slice (some ⟨g, 0, none⟩) n cap) n (fcells l) → Below B w w' → wpList Tryd.prog ops Q rest (a.put o.dst (.slice (some ⟨g, 0, none⟩) n cap)) w') : wpList Tryd.prog ops Q (o :: rest) a w := by
  obtain ⟨i0, hi, hz0, hz1, hz2⟩ := info_parts info36p
  subst hln
  by_cases h0 : 0 < l.length
  · obtain ⟨ad, rfl, hab, hc⟩ := hF.cells h0
    refine wpList_append_lies w hgd s x 22 ho B 36 i0 (.agg #[.string ⟨#[]⟩, .string ⟨#[]⟩]) 2 32 Tryd.underlying22 hi hz0 hz1 hz2 rfl (by decide) (.slice (some ⟨b, 0, none⟩) 0 0) 0 _ hs hown ad l.length c (fcells l) hx (fcells_length l) hc (fcells_one' l) h0 (by unfold maxLen; omega) (by omega) hB _ rfl ?_
    intro g cap w' hown' hgrow _ _
    have h5 := h g cap w' (by simpa using hown') ((Below.refl _ _).grown hgrow hB (fun k e => (hown.lt k e).1))
    simpa using h5
  · have hl0 : l = [] := List.eq_nil_of_length_eq_zero (by omega)
    subst hl0
    have hsrc : Src Tryd.prog i0.size 22 (.slice A 0 c) 0 [] w := by
      cases A with
      | none => exact Src.ofNil w Tryd.underlying22 c
      | some ad => exact Src.ofSlice w Tryd.underlying22 ad 0 c [] (by simp) (fun j u hj => by cases hj) (fun u hu => by cases hu)
    have hrun := run_append_room_src w 22 22 o.type 36 i0 Tryd.underlying22 hi b 0 0 0 (.slice A 0 c) 0 [] hsrc (Nat.le_refl _) (fun j hj => absurd hj (Nat.not_lt_zero _)) (fun j hj => absurd hj (Nat.not_lt_zero _))
    refine Lib.wpList_append_run w hgd s x 22 22 ho _ _ hs hx _ _ hrun ?_
    exact h b 0 w hown (Below.refl _ _)
theorem half_small {a b : List FileB} {D : List Chg} {k : Nat} {t : List FileB} (h : Half a b D k t) (ha : ∀ f ∈ a, f.1.size ≤ 300 ∧ f.2.size ≤ 300) (hb : ∀ f ∈ b, f.1.size ≤ 300 ∧ f.2.size ≤ 300) (hl : a.length + k ≤ 900) : Small t :=
  ⟨by have := h.len; omega, fun x hx => by
    rcases (h.mem x).1 hx with ⟨h1, _⟩ | ⟨h1, _⟩
    · exact ha x h1
    · exact hb x h1⟩
theorem bad7_okPath {p : ByteArray} (h : bad7 p = false) : okPath p.data.toList = true := by
  unfold bad7 at h
  cases hq : okPath p.data.toList with
  | true => rfl
  | false => rw [hq] at h; cases h
set_option maxHeartbeats 4000000 in
set_option maxRecDepth 100000 in
theorem treeGoes_any (l : List FileB) (A1 : Option Addr) (c1 : Nat) (m : List FileB) (A2 : Option Addr) (c2 : Nat) (w : World)
    (hF : Files w w.heap.size A1 l) (hn : l.length ≤ 4611686018427387904) (hs : ∀ f ∈ l, f.1.size ≤ maxLen ∧ f.2.size ≤ maxLen) (hc1 : l.length ≤ c1)
    (hG : Files w w.heap.size A2 m) (hm : m.length ≤ 4611686018427387904) (ht : ∀ f ∈ m, f.1.size ≤ maxLen ∧ f.2.size ≤ maxLen) (hc2 : m.length ≤ c2) :
    Calls Tryd.prog 3 #[.slice A1 l.length c1, .slice A2 m.length c2] w fun e w' => e = .returned (.bool true) ∧ Below w.heap.size w w' := by
  obtain ⟨i0, hi0, hz0i, hz1i, hz2i⟩ := info_parts info36p
  have hg : Calls Tryd.prog 14 #[.slice A1 l.length c1] w fun e w' => e = .returned (.bool (greatL l)) ∧ w = w' := (great_any l A1 c1 w hF hn hs).mono fun e w' h => ⟨h.1, h.2.symm⟩
  have hg2 : Calls Tryd.prog 14 #[.slice A2 m.length c2] w fun e w' => e = .returned (.bool (greatL m)) ∧ w = w' := (great_any m A2 c2 w hG hm ht).mono fun e w' h => ⟨h.1, h.2.symm⟩
  have hfl := fun w' (hb : Below w.heap.size w w') => (hF.below hb (Nat.le_refl _)).more hb.size
  have hfm := fun w' (hb : Below w.heap.size w w') => (hG.below hb (Nat.le_refl _)).more hb.size
  cases hgr : greatL l with
  | true =>
    rw [hgr] at hg
    have HG := Lib.hid hg
    clear hg hgr hF hs hG hg2 ht hfl hfm
    go_enter Tryd.func3, Tryd.ntmps3
    go_wp2_with (first
      | (go_at_call 14; (with_reducible refine HG.out.mono ?_); rintro e w1 ⟨rfl, rfl⟩)
      | (go_at_call 16; (with_reducible refine (fixed_any _).mono ?_); rintro e w2 ⟨rfl, b2⟩))
    go_ret
    exact ⟨rfl, b2⟩
  | false =>
    rw [hgr] at hg
    have HG := Lib.hid hg
    obtain ⟨g1, g2⟩ := great_not hgr
    clear hg hgr hs
    cases hgr2 : greatL m with
    | true =>
      rw [hgr2] at hg2
      have HG2 := Lib.hid hg2
      clear hg2 hgr2 hF hG ht g2 hfl hfm
      go_enter Tryd.func3, Tryd.ntmps3
      go_wp2_with (first
        | (go_at_call 14; (with_reducible refine HG.out.mono ?_); rintro e w1 ⟨rfl, rfl⟩)
        | (go_at_call 14; (with_reducible refine HG2.out.mono ?_); rintro e w1 ⟨rfl, rfl⟩)
        | (go_at_call 16; (with_reducible refine (fixed_any _).mono ?_); rintro e w2 ⟨rfl, b2⟩))
      go_ret
      exact ⟨rfl, b2⟩
    | false =>
      rw [hgr2] at hg2
      have HG2 := Lib.hid hg2
      obtain ⟨g3, g4⟩ := great_not hgr2
      clear hg2 hgr2 ht
      by_cases hl30 : 30 < l.length
      · clear hF hG g2 g4 hfl hfm
        go_enter Tryd.func3, Tryd.ntmps3
        go_wp2_with (first
          | (go_at_call 14; (with_reducible refine HG.out.mono ?_); rintro e w1 ⟨rfl, rfl⟩)
          | (go_at_call 14; (with_reducible refine HG2.out.mono ?_); rintro e w1 ⟨rfl, rfl⟩)
          | (go_at_call 16; (with_reducible refine (fixed_any _).mono ?_); rintro e w2 ⟨rfl, b2⟩))
        go_ret
        exact ⟨rfl, b2⟩
      by_cases hm30 : 30 < m.length
      · clear hF hG g2 g4 hfl hfm
        go_enter Tryd.func3, Tryd.ntmps3
        go_wp2_with (first
          | (go_at_call 14; (with_reducible refine HG.out.mono ?_); rintro e w1 ⟨rfl, rfl⟩)
          | (go_at_call 14; (with_reducible refine HG2.out.mono ?_); rintro e w1 ⟨rfl, rfl⟩)
          | (go_at_call 16; (with_reducible refine (fixed_any _).mono ?_); rintro e w2 ⟨rfl, b2⟩))
        go_ret
        exact ⟨rfl, b2⟩
      have hsl : Small l := ⟨by omega, g2⟩
      have hsm : Small m := ⟨by omega, g4⟩
      have hck := rcheck_any l A1 c1 w hF hsl
      have hck2 := fun w' hb => rcheck_any m A2 c2 w' (hfm w' hb) hsm
      obtain ⟨C1, hC1⟩ : ∃ C1, C1 = checkL l := ⟨_, rfl⟩
      obtain ⟨C2, hC2⟩ : ∃ C2, C2 = checkL m := ⟨_, rfl⟩
      rw [← hC1] at hck
      simp only [← hC2] at hck2
      have HCK := Lib.hid hck
      have HCK2 := Lib.hid hck2
      clear hck hck2
      by_cases hk1 : C1 = 0
      · subst hk1
        by_cases hk2 : C2 = 0
        · subst hk2
          have hcl := hC1.symm
          have hcm := hC2.symm
          have hd := fun w' hb => tdiff_any l m A1 A2 c1 c2 w' (hfl w' hb) (hfm w' hb) hsl hsm hc1 hc2 (by omega)
          have hdp : diffP l m = diffT l m := by unfold diffP; rw [if_pos ⟨hcl, hcm⟩]
          rw [hdp] at hd
          have hdl : (diffT l m).length ≤ 60 := by have := diffT_len _ l m rfl; omega
          have hz := half_zero (b := m) (D := diffT l m) hcl
          have hst : ∀ k t c, (diffT l m)[k]? = some c → Half l m (diffT l m) k t → Half l m (diffT l m) (k + 1) (stepT m t c) := fun k t c hk h => by
            obtain ⟨h1, h2⟩ := List.getElem?_eq_some_iff.1 hk
            rw [← h2]
            exact half_step hcl hcm h1 h
          have hen := fun t h => @half_end l m hcl hcm t h
          have hcf := fun c hc => @chg_facts l m hcl hcm c hc
          have hsma := fun k t (h : Half l m (diffT l m) k t) (hk : k ≤ 60) => half_small h g2 g4 (by omega)
          have hget := fun p w' hb => rget_any m p A2 c2 w' (hfm w' hb) hm
          have hcell := fun w' (hb : Below w.heap.size w w') => (hfl w' hb).cells
          have hps0 : ∀ c ∈ diffT l m, c.1.size ≤ 300 := fun c hc => by
            rcases (hcf c hc).2.2.2 with ⟨y, hy, he⟩ | ⟨y, hy, he⟩
            · rw [← he]; exact (g2 y hy).1
            · rw [← he]; exact (g4 y hy).1
          obtain ⟨D, hD⟩ : ∃ D, D = diffT l m := ⟨_, rfl⟩
          simp only [← hD] at hd hst hen hcf hsma hps0
          have HPS := Lib.hid hps0
          clear hps0
          rw [← hD] at hdl hz
          have HD := Lib.hid hd
          have HZ := Lib.hid hz
          have HST := Lib.hid hst
          have HEN := Lib.hid hen
          have HCF := Lib.hid hcf
          have HSMA := Lib.hid hsma
          have HGET := Lib.hid hget
          have HFL := Lib.hid hfl
          have HFM := Lib.hid hfm
          have HGB := Lib.hid g4
          have hm64 : m.length ≤ 1000 := by omega
          clear hd hz hst hen hcf hsma hget hfl hfm hD hdp hF hG g2 g4 hC1 hC2 hcl hcm hsl hsm
          go_enter Tryd.func3, Tryd.ntmps3
          go_wp2_with (first
            | (go_at_call 14; (with_reducible refine HG.out.mono ?_); rintro e w1 ⟨rfl, rfl⟩)
            | (go_at_call 14; (with_reducible refine HG2.out.mono ?_); rintro e w1 ⟨rfl, rfl⟩)
            | (go_at_call 15; (with_reducible refine HCK.out.mono ?_); rintro e w1 ⟨rfl, b1⟩)
            | (go_at_call 15; (with_reducible refine (HCK2.out _ b1).mono ?_); rintro e w2 ⟨rfl, b2⟩; have b2' := b1.trans (b2.mono b1.size))
            | (go_at_call 17; (with_reducible refine (HD.out _ b2').mono ?_); rintro e w3 ⟨B1, k1, rfl, own1, b3⟩; have t1 := Chgs.of_own own1; have b3' := b2'.trans (b3.mono b2'.size); have hlit := World.ownsRow_lit (base := w3.heap.size) (e := 36) (size := 2) w3 #[] 0 (Nat.le_refl _) (by decide) rfl; have b3a := (b3'.alloc b3'.size (.cells #[] 36)); have hfa := HFL.out _ b3a)
            | (at_builtin; refine wpList_append_clone rfl (.tmp 40) (.tmp 41) rfl l A1 l.length c1 w3.heap.size w3.heap.size rfl rfl rfl hlit hfa (by omega) (by simp) ?_; intro g4 cap4 w4 own4 b4))
          have b4' : Below w3.heap.size w3 w4 := ((Below.refl _ _).alloc (Nat.le_refl _) _).trans b4
          have t4 := (t1.below b4' (Nat.le_refl _)).more b4'.size
          have f4 := Files.of_own own4
          have b4q := b3'.trans (b4'.mono b3'.size)
          have T4 := Lib.hid t4
          have F4 := Lib.hid f4
          clear t1 own1 own4 hlit hfa t4 f4 b4 b4' b3a b3 b3' b2 b2' b1
          go_loopw [6, 7, 8, 9] (fun s6 s7 _ _ wr => ∃ (k n : Nat) (A : Option Addr) (c : Nat) (T : List FileB), k ≤ D.length ∧ s7 = .int .i64 k ∧ s6 = .slice A n c ∧ Hid (n = T.length) ∧ Hid (Files wr wr.heap.size A T) ∧ Hid (Half l m D k T) ∧ Hid (Chgs wr wr.heap.size B1 D) ∧ Below w.heap.size w wr) (fun _ s7 _ _ _ => D.length - (intOf s7).toNat)
          case atStart => exact ⟨0, l.length, _, _, l, by omega, rfl, rfl, Lib.hid rfl, F4, HZ, T4, b4q⟩
          case round =>
            clear T4 F4 b4q HZ
            obtain ⟨k, n, A, c, T, hk, rfl, rfl, hnT, hFT, hHT, hCT, hB⟩ := hrel
            have hsz := hB.size
            by_cases hlt : k < D.length
            · obtain ⟨a, rfl, hab, hcc⟩ := hCT.out (by omega)
              obtain ⟨d1, d2⟩ := hcc k D[k] (List.getElem?_eq_getElem hlt)
              have hst := HST.out k T D[k] (List.getElem?_eq_getElem hlt) hHT.out
              obtain ⟨f1, f2, f3, f4⟩ := HCF.out D[k] (List.getElem_mem hlt)
              have hps := HPS.out D[k] (List.getElem_mem hlt)
              obtain ⟨x, hx⟩ : ∃ x, x = D[k] := ⟨_, rfl⟩
              rw [← hx] at d1 d2 hst f1 f2 f3 hps
              have hsmT := HSMA.out k T hHT.out (by omega)
              have hlT := hHT.out.len
              have hmay := fun w' => rmay_any x.1 w' (by omega)
              rw [bad7_okPath f1] at hmay
              have hall : ∀ w', Below wr.heap.size wr w' → w'.cell? (a.add (k * 2)) = some (.string x.1) ∧ w'.cell? ⟨(a.add (k * 2)).block, (a.add (k * 2)).off + 1, none⟩ = some (.int .i64 (x.2 : Nat)) := fun w' hb =>
                ⟨(hb.cell (p := a.add (k * 2)) (by rw [add_block]; exact hab)).trans d1, (hb.cell (p := ⟨(a.add (k * 2)).block, (a.add (k * 2)).off + 1, none⟩) (by show (a.add (k * 2)).block < _; rw [add_block]; exact hab)).trans d2⟩
              have HALL := Lib.hid hall
              have HMAY := Lib.hid hmay
              have HSTP := Lib.hid hst
              have i1 : (0 : Int) ≤ (k : Int) := by omega
              have i2 : (k : Int) < (D.length : Int) := by omega
              have hft := fun w' (hb : Below wr.heap.size wr w') => (hFT.out.below hb (Nat.le_refl _)).more hb.size
              by_cases h2 : x.2 = 2
              · have hdr := fun w' hb => tdrop_any T x.1 A c w' (hft w' hb) hsmT (by omega)
                have hse : stepT m T x = dropL T x.1 := by unfold stepT; rw [if_pos h2]
                rw [hse] at HSTP
                rw [← hnT.out] at hdr
                have HDR := Lib.hid hdr
                have e1 : ((x.2 : Nat) : Int) = 2 := by omega
                have e2 : (((x.2 : Nat) : Int) == 2) = true := by rw [e1]; rfl
                clear hcc hst f1 f2 f3 f4 hps hx hall hmay hft hdr hse h2
                go_wp2_with (first
                  | (go_at_call 18; (with_reducible refine (HMAY.out _).mono ?_); rintro e w5 ⟨rfl, b5⟩; obtain ⟨z1, z2⟩ := HALL.out w5 b5)
                  | (go_at_call 19; (with_reducible refine (HDR.out _ b5).mono ?_); rintro e w6 ⟨A6, cp6, rfl, own6, b6⟩; have f6 := Files.of_own own6; have b6' := b5.trans (b6.mono b5.size)))
                go_roundw
                case rel => exact ⟨k + 1, _, _, _, _, by omega, by go_num, rfl, Lib.hid rfl, Lib.hid f6, HSTP, Lib.hid ((hCT.out.below b6' (Nat.le_refl _)).more b6'.size), hB.trans (b6'.mono hsz)⟩
                case measure => simp [intOf]; omega
              · obtain ⟨d, hd, hdm⟩ := f3 h2
                have hgt := fun w' hb => HGET.out x.1 w' hb
                rw [hd] at hgt
                have hpt := fun w' hb => tput_any T (x.1, d) A c w' (hft w' hb) hsmT (by omega) ⟨hps, (HGB.out _ hdm).2⟩
                have hse : stepT m T x = putL T (x.1, d) := by unfold stepT; rw [if_neg h2, hd]; rfl
                rw [hse] at HSTP
                rw [← hnT.out] at hpt
                have HPT := Lib.hid hpt
                have HGT : Hid (∀ w', Below w.heap.size w w' → Calls Tryd.prog 20 #[.slice A2 m.length c2, .string x.1] w' fun e w'' => e = .returned (.tuple #[.string d, .bool true]) ∧ w'' = w') := Lib.hid hgt
                have e1 : ¬ ((x.2 : Nat) : Int) = 2 := by omega
                have e2 : (((x.2 : Nat) : Int) == 2) = false := beq_eq_false_iff_ne.2 e1
                clear hcc hst f1 f2 f3 f4 hps hx hall hmay hft hpt hgt hse h2 hd hdm
                go_wp2_with (first
                  | (go_at_call 18; (with_reducible refine (HMAY.out _).mono ?_); rintro e w5 ⟨rfl, b5⟩; obtain ⟨z1, z2⟩ := HALL.out w5 b5; have b5' := hB.trans (b5.mono hsz))
                  | (go_at_call 20; (with_reducible refine (HGT.out _ b5').mono ?_); rintro e w6 ⟨rfl, hw6⟩; subst hw6)
                  | (go_at_call 21; (with_reducible refine (HPT.out _ b5).mono ?_); rintro e w7 ⟨A6, cp6, rfl, own6, b6⟩; have f6 := Files.of_own own6; have b6' := b5.trans (b6.mono b5.size)))
                go_roundw
                case rel => exact ⟨k + 1, _, _, _, _, by omega, by go_num, rfl, Lib.hid rfl, Lib.hid f6, HSTP, Lib.hid ((hCT.out.below b6' (Nat.le_refl _)).more b6'.size), hB.trans (b6'.mono hsz)⟩
                case measure => simp [intOf]; omega
            · have hke : k = D.length := by omega
              have hTm : T = m := HEN.out T (by rw [← hke]; exact hHT.out)
              subst hTm
              have hsame := same_any T T A A2 c c2 wr hFT.out (HFM.out wr hB) hm64 hm64
              rw [sameL_self] at hsame
              have hn2 := hnT.out
              subst hn2
              have HS := Lib.hid hsame
              clear hsame hHT hFT hCT hnT
              go_wp2_with (first
                | (go_at_call 22; (with_reducible refine HS.out.mono ?_); rintro e w8 ⟨rfl, b8⟩; have b8' := hB.trans (b8.mono hsz))
                | (go_at_call 16; (with_reducible refine (fixed_any _).mono ?_); rintro e w9 ⟨rfl, b9⟩))
              go_ret
              exact ⟨rfl, b8'.trans (b9.mono b8'.size)⟩
        · have q1 : (C2 != 0) = true := bne_iff_ne.2 hk2
          clear hk2 hF hG g2 g4 hfl hfm hC1 hC2
          go_enter Tryd.func3, Tryd.ntmps3
          go_wp2_with (first
            | (go_at_call 14; (with_reducible refine HG.out.mono ?_); rintro e w1 ⟨rfl, rfl⟩)
            | (go_at_call 14; (with_reducible refine HG2.out.mono ?_); rintro e w1 ⟨rfl, rfl⟩)
            | (go_at_call 15; (with_reducible refine HCK.out.mono ?_); rintro e w1 ⟨rfl, b1⟩)
            | (go_at_call 15; (with_reducible refine (HCK2.out _ b1).mono ?_); rintro e w2 ⟨rfl, b2⟩; have b2' := b1.trans (b2.mono b1.size))
            | (go_at_call 16; (with_reducible refine (fixed_any _).mono ?_); rintro e w3 ⟨rfl, b3⟩))
          go_ret
          exact ⟨rfl, b2'.trans (b3.mono b2'.size)⟩
      · have q1 : (C1 != 0) = true := bne_iff_ne.2 hk1
        clear hk1 hF hG g2 g4 hfl hfm hC1 hC2
        go_enter Tryd.func3, Tryd.ntmps3
        go_wp2_with (first
          | (go_at_call 14; (with_reducible refine HG.out.mono ?_); rintro e w1 ⟨rfl, rfl⟩)
          | (go_at_call 14; (with_reducible refine HG2.out.mono ?_); rintro e w1 ⟨rfl, rfl⟩)
          | (go_at_call 15; (with_reducible refine HCK.out.mono ?_); rintro e w1 ⟨rfl, b1⟩)
          | (go_at_call 16; (with_reducible refine (fixed_any _).mono ?_); rintro e w3 ⟨rfl, b3⟩))
        go_ret
        exact ⟨rfl, b1.trans (b3.mono b1.size)⟩
end Go.Proofs.YtjpaajpjajoijaaDoor
