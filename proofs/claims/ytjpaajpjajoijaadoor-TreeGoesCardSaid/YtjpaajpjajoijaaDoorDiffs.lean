/- The law TreeDiffs, walked. -/
import Derived.Test.YtjpaajpjajoijaaDoorRDiff
import Derived.Test.YtjpaajpjajoijaaDoorGets
namespace Go.Proofs.YtjpaajpjajoijaaDoor
set_option linter.unusedVariables false
open Go.RowKit
/-- The slice at A holds the changes l, below block B. -/
def Chgs (w : World) (B : Nat) (A : Option Addr) (l : List Chg) : Prop :=
  0 < l.length → ∃ a, A = some a ∧ a.block < B ∧ ∀ j c, l[j]? = some c → w.cell? (a.add (j * 2)) = some (.string c.1) ∧ w.cell? ⟨(a.add (j * 2)).block, (a.add (j * 2)).off + 1, none⟩ = some (.int .i64 (c.2 : Nat))
theorem ccells_get : ∀ (l : List Chg) (j : Nat) (f : Chg), l[j]? = some f → (ccells l)[j * 2]? = some (.string f.1) ∧ (ccells l)[j * 2 + 1]? = some (.int .i64 (f.2 : Nat))
  | [], j, f, h => by simp at h
  | g :: l, 0, f, h => by simp at h; subst h; exact ⟨rfl, rfl⟩
  | g :: l, j + 1, f, h => by
    have ih := ccells_get l j f (by simpa using h)
    rw [show ccells (g :: l) = .string g.1 :: .int .i64 (g.2 : Nat) :: ccells l from rfl, show (j + 1) * 2 = j * 2 + 1 + 1 from by omega]
    simpa using ih
theorem Chgs.of_own {w : World} {base : Nat} {A : Option Addr} {cap : Nat} {l : List Chg} (h : w.ownsRow base 30 2 (.slice A l.length cap) l.length (ccells l)) : Chgs w w.heap.size A l := fun h0 => by
  rcases h.2 with ⟨h1, h2⟩ | ⟨g, cap', cur, hv, hb, hh, _⟩
  · omega
  · injection hv with hA _ _
    subst hA
    refine ⟨_, rfl, (Array.getElem?_eq_some_iff.1 hh).1, fun j f hj => ?_⟩
    obtain ⟨h1, h2⟩ := ccells_get l j f hj
    have k1 := h.cells (g := g) rfl _ _ h1
    have k2 := h.cells (g := g) rfl _ _ h2
    refine ⟨k1, ?_⟩
    have h6 : ((⟨g, 0, none⟩ : Addr).add (j * 2)).add 1 = ⟨((⟨g, 0, none⟩ : Addr).add (j * 2)).block, ((⟨g, 0, none⟩ : Addr).add (j * 2)).off + 1, none⟩ := rfl
    rw [← h6, add_of_add]
    exact k2
theorem Chgs.below {w w' : World} {B : Nat} {A : Option Addr} {l : List Chg} (h : Chgs w B A l) {C : Nat} (hb : Below C w w') (hC : B ≤ C) : Chgs w' B A l := fun h0 => by
  obtain ⟨a, rfl, hab, hc⟩ := h h0
  exact ⟨a, rfl, hab, fun j f hj => ⟨(hb.cell (p := a.add (j * 2)) (by rw [add_block]; omega)).trans (hc j f hj).1, (hb.cell (p := ⟨(a.add (j * 2)).block, (a.add (j * 2)).off + 1, none⟩) (by show (a.add (j * 2)).block < C; rw [add_block]; omega)).trans (hc j f hj).2⟩⟩
theorem Chgs.more {w : World} {B C : Nat} {A : Option Addr} {l : List Chg} (h : Chgs w B A l) (hC : B ≤ C) : Chgs w C A l := fun h0 => by
  obtain ⟨a, rfl, hab, hc⟩ := h h0
  exact ⟨a, rfl, by omega, hc⟩
theorem neq30 (c : Chg) (w : World) : (binOp .neq 30 (.agg #[.string c.1, .int .i64 (c.2 : Nat)]) (.agg #[.string c.1, .int .i64 (c.2 : Nat)])).run Tryd.prog w = .ok (.bool false) w := by
  rw [run_neq_struct, run_equalIn_agg _ _ _ _ _ (by kernel_rfl) (by kernel_rfl)]
  have e : (Tryd.prog.fieldsOf 30).toList = [{ name := "Path", type := 9, offset := 0, embedded := false, tag := "", pkgPath := "", byteOffset := 0 }, { name := "Kind", type := 3, offset := 1, embedded := false, tag := "", pkgPath := "", byteOffset := 16 }] := by kernel_rfl
  rw [e]
  have h9 : ∀ (d : Nat) (a b : ByteArray), (Op.equalIn (d + 1) 9 (.string a) (.string b)).run Tryd.prog w = .ok (a.toList == b.toList) w := fun d a b => run_equalIn_string w d 9 a b Tryd.underlying9
  have h3 : ∀ (d : Nat) (a b : Int), (Op.equalIn (d + 1) 3 (.int .i64 a) (.int .i64 b)).run Tryd.prog w = .ok (a == b) w := fun d a b => by
    simp [Op.equalIn, run_underlying Tryd.underlying3]
  have p0 : (part 9 #[.string c.1, .int .i64 (c.2 : Nat)] 0).run Tryd.prog w = .ok (.string c.1) w := by simp [part, Tryd.isAgg9]
  have p1 : (part 3 #[.string c.1, .int .i64 (c.2 : Nat)] 1).run Tryd.prog w = .ok (.int .i64 (c.2 : Nat)) w := by simp [part, Tryd.isAgg3]
  simp only [Op.eqFields, Sem.run_bind, Sem.run_ite, p0, p1, h9, h3, Result.andThen_ok]
  simp
theorem diffP_self (l : List FileB) : diffP l l = [] := by
  unfold diffP
  split
  · exact diffT_self l
  · rfl
theorem diffP_len (l m : List FileB) : (diffP l m).length ≤ l.length + m.length := by
  unfold diffP
  split
  · exact diffT_len _ l m rfl
  · simp
set_option maxHeartbeats 4000000 in
set_option maxRecDepth 100000 in
theorem treeDiffs_any (l : List FileB) (A1 : Option Addr) (c1 : Nat) (m : List FileB) (A2 : Option Addr) (c2 : Nat) (w : World)
    (hF : Files w w.heap.size A1 l) (hn : l.length ≤ 4611686018427387904) (hs : ∀ f ∈ l, f.1.size ≤ maxLen ∧ f.2.size ≤ maxLen) (hc1 : l.length ≤ c1)
    (hG : Files w w.heap.size A2 m) (hm : m.length ≤ 4611686018427387904) (ht : ∀ f ∈ m, f.1.size ≤ maxLen ∧ f.2.size ≤ maxLen) (hc2 : m.length ≤ c2) :
    Calls Tryd.prog 12 #[.slice A1 l.length c1, .slice A2 m.length c2] w fun e w' => e = .returned (.bool true) ∧ Below w.heap.size w w' := by
  have hg : Calls Tryd.prog 14 #[.slice A1 l.length c1] w fun e w' => e = .returned (.bool (greatL l)) ∧ w = w' := (great_any l A1 c1 w hF hn hs).mono fun e w' h => ⟨h.1, h.2.symm⟩
  have hg2 : Calls Tryd.prog 14 #[.slice A2 m.length c2] w fun e w' => e = .returned (.bool (greatL m)) ∧ w = w' := (great_any m A2 c2 w hG hm ht).mono fun e w' h => ⟨h.1, h.2.symm⟩
  cases hgr : greatL l with
  | true =>
    rw [hgr] at hg
    have HG := Lib.hid hg
    clear hg hgr hF hs hG hg2 ht
    go_enter Tryd.func12, Tryd.ntmps12
    go_wp2_with (first
      | (go_at_call 14; (with_reducible refine HG.out.mono ?_); rintro e w1 ⟨rfl, rfl⟩)
      | (go_at_call 16; (with_reducible refine (fixed_any _).mono ?_); rintro e w2 ⟨rfl, b2⟩))
    go_ret
    exact ⟨rfl, b2⟩
  | false =>
    rw [hgr] at hg
    have HG := Lib.hid hg
    obtain ⟨g1, g2⟩ := great_not hgr
    clear hg hgr hs
    cases hgr2 : greatL m with
    | true =>
      rw [hgr2] at hg2
      have HG2 := Lib.hid hg2
      clear hg2 hgr2 hF hG ht g2
      go_enter Tryd.func12, Tryd.ntmps12
      go_wp2_with (first
        | (go_at_call 14; (with_reducible refine HG.out.mono ?_); rintro e w1 ⟨rfl, rfl⟩)
        | (go_at_call 14; (with_reducible refine HG2.out.mono ?_); rintro e w1 ⟨rfl, rfl⟩)
        | (go_at_call 16; (with_reducible refine (fixed_any _).mono ?_); rintro e w2 ⟨rfl, b2⟩))
      go_ret
      exact ⟨rfl, b2⟩
    | false =>
      rw [hgr2] at hg2
      have HG2 := Lib.hid hg2
      obtain ⟨g3, g4⟩ := great_not hgr2
      clear hg2 hgr2 ht
      have hsl : Small l := ⟨by omega, g2⟩
      have hsm : Small m := ⟨by omega, g4⟩
      have hfl := fun w' (hb : Below w.heap.size w w') => (hF.below hb (Nat.le_refl _)).more hb.size
      have hfm := fun w' (hb : Below w.heap.size w w') => (hG.below hb (Nat.le_refl _)).more hb.size
      have hd := tdiff_any l m A1 A2 c1 c2 w hF hG hsl hsm hc1 hc2 (by omega)
      have hr := fun w' hb => rdiff_any l m A1 A2 c1 c2 w' (hfl w' hb) (hfm w' hb) hsl hsm (by omega)
      have hself : ∀ w', Below w.heap.size w w' → Calls Tryd.prog 17 #[.slice A1 l.length c1, .slice A1 l.length c1] w' fun e w'' => ∃ (A' : Option Addr) (cap : Nat), e = .returned (.slice A' 0 cap) ∧ Below w'.heap.size w' w'' := fun w' hb => by
        have h5 := tdiff_any l l A1 A1 c1 c1 w' (hfl w' hb) (hfl w' hb) hsl hsl hc1 hc1 (by omega)
        rw [diffP_self] at h5
        exact h5.mono fun e w'' ⟨A', cap, h6, _, h7⟩ => ⟨A', cap, h6, h7⟩
      have hdl := diffP_len l m
      simp only [diffQ_eq] at hr
      obtain ⟨D, hD⟩ : ∃ D, D = diffP l m := ⟨_, rfl⟩
      rw [← hD] at hd hdl
      simp only [← hD] at hr
      have HD := Lib.hid hd
      have HR := Lib.hid hr
      have HSELF := Lib.hid hself
      clear hfl hfm hd hr hself hF hG g2 g4 hsl hsm hD
      go_enter Tryd.func12, Tryd.ntmps12
      go_wp2_with (first
        | (go_at_call 14; (with_reducible refine HG.out.mono ?_); rintro e w1 ⟨rfl, rfl⟩)
        | (go_at_call 14; (with_reducible refine HG2.out.mono ?_); rintro e w1 ⟨rfl, rfl⟩)
        | (go_at_call 17; (with_reducible refine HD.out.mono ?_); rintro e w1 ⟨B1, k1, rfl, own1, b1⟩; have t1 := Chgs.of_own own1)
        | (go_at_call 43; (with_reducible refine (HR.out w1 b1).mono ?_); rintro e w2 ⟨B2, k2, rfl, own2, b2⟩; have t2 := Chgs.of_own own2; have t1' := (t1.below b2 (Nat.le_refl _)).more b2.size; have b2' := b1.trans (b2.mono b1.size))
        | (go_at_call 17; (with_reducible refine (HSELF.out w2 b2').mono ?_); rintro e w3 ⟨B3, k3, rfl, b3⟩; have t2' := (t2.below b3 (Nat.le_refl _)).more b3.size; have t1q := (t1'.below b3 (Nat.le_refl _)).more b3.size; have b3' := b2'.trans (b3.mono b2'.size)))
      go_loopw [7] (fun i wr => ∃ k : Nat, k ≤ D.length ∧ i = .int .i64 k ∧ ∃ q, wr = w3.drewN q) (fun i _ => D.length - (intOf i).toNat)
      case atStart => exact ⟨0, by omega, rfl, 0, rfl⟩
      case round =>
        obtain ⟨k, hk, rfl, q, rfl⟩ := hrel
        have HT1 := Lib.hid t1q
        have HT2 := Lib.hid t2'
        clear t1 t2 t1' t1q t2' own1 own2
        by_cases hlt : k < D.length
        · obtain ⟨a, rfl, hab, hc⟩ := HT1.out (by omega)
          obtain ⟨b, rfl, hbb, hd⟩ := HT2.out (by omega)
          obtain ⟨c1', c2'⟩ := hc k D[k] (List.getElem?_eq_getElem hlt)
          obtain ⟨d1, d2⟩ := hd k D[k] (List.getElem?_eq_getElem hlt)
          obtain ⟨x, hx⟩ : ∃ x, x = D[k] := ⟨_, rfl⟩
          rw [← hx] at c1' c2' d1 d2
          have hne := fun w => neq30 x w
          have q2 : (0 : Int) ≤ (k : Int) := by omega
          have q3 : (k : Int) < (D.length : Int) := by omega
          clear hx hc hd
          go_wp2_with fail
          go_quiet (fail)
          clear hne
          go_wp2
          go_roundw
          case rel => exact ⟨k + 1, by omega, by go_num, _, rfl⟩
          case measure => simp [intOf]; omega
        · go_wp2_with (go_at_call 16; (with_reducible refine (fixed_any _).mono ?_); rintro e w4 ⟨rfl, b4⟩)
          go_ret
          exact ⟨rfl, (below_drewN b3' q).trans (b4.mono b3'.size)⟩
end Go.Proofs.YtjpaajpjajoijaaDoor
