/- bloomeryref05.with, Put, Drop, Same. -/
import Derived.Test.YtjpaajpjajoijaaDoorWithL
import Derived.Deep.QuietTactic
import Derived.BigQuiet
namespace Go.Proofs.YtjpaajpjajoijaaDoor
set_option linter.unusedVariables false
open Go.RowKit
theorem add_of_add (a : Addr) (i j : Nat) : (a.add i).add j = a.add (i + j) := by
  unfold Addr.add
  by_cases hi : i = 0 <;> by_cases hj : j = 0 <;> simp [hi, hj, Nat.add_assoc]
/-- Files as cells. -/
def fcells (l : List FileB) : List Value := l.flatMap fun f => [.string f.1, .string f.2]
theorem fcells_append (l m : List FileB) : fcells (l ++ m) = fcells l ++ fcells m := by simp [fcells]
theorem fcells_two (f g : FileB) : fcells [f, g] = [.string f.1, .string f.2, .string g.1, .string g.2] := rfl
theorem fcells_one (f : FileB) : fcells [f] = [.string f.1, .string f.2] := rfl
theorem fcells_length (l : List FileB) : (fcells l).length = l.length * 2 := by
  induction l with
  | nil => rfl
  | cons f l ih => rw [show fcells (f :: l) = .string f.1 :: .string f.2 :: fcells l from rfl, List.length_cons, List.length_cons, ih, List.length_cons]; omega
theorem fcells_get : ∀ (l : List FileB) (j : Nat) (f : FileB), l[j]? = some f → (fcells l)[j * 2]? = some (.string f.1) ∧ (fcells l)[j * 2 + 1]? = some (.string f.2)
  | [], j, f, h => by simp at h
  | g :: l, 0, f, h => by simp at h; subst h; exact ⟨rfl, rfl⟩
  | g :: l, j + 1, f, h => by
    have ih := fcells_get l j f (by simpa using h)
    rw [show fcells (g :: l) = .string g.1 :: .string g.2 :: fcells l from rfl, show (j + 1) * 2 = j * 2 + 1 + 1 from by omega]
    simpa using ih
/-- A row of files of the call's own. -/
def OwnF (w : World) (base : Nat) (A : Option Addr) (cap : Nat) (l : List FileB) : Prop := w.ownsRow base 36 2 (.slice A l.length cap) l.length (fcells l)
theorem Files.of_own {w : World} {base : Nat} {A : Option Addr} {cap : Nat} {l : List FileB} (h : w.ownsRow base 36 2 (.slice A l.length cap) l.length (fcells l)) : Files w w.heap.size A l := fun h0 => by
  rcases h.2 with ⟨h1, h2⟩ | ⟨g, cap', cur, hv, hb, hh, _⟩
  · omega
  · injection hv with hA _ _
    subst hA
    refine ⟨_, rfl, (Array.getElem?_eq_some_iff.1 hh).1, fun j f hj => ?_⟩
    obtain ⟨h1, h2⟩ := fcells_get l j f hj
    have k1 := h.cells (g := g) rfl _ _ h1
    have k2 := h.cells (g := g) rfl _ _ h2
    refine ⟨k1, ?_⟩
    have h6 : ((⟨g, 0, none⟩ : Addr).add (j * 2)).add 1 = ⟨((⟨g, 0, none⟩ : Addr).add (j * 2)).block, ((⟨g, 0, none⟩ : Addr).add (j * 2)).off + 1, none⟩ := rfl
    rw [← h6, add_of_add]
    exact k2
theorem info36p : (Tryd.prog.info? 36).map (fun i => (i.zero, i.size, i.bytes)) = some (some (.agg #[.string ⟨#[]⟩, .string ⟨#[]⟩]), 2, 32) := by kernel_rfl
theorem news_two (w : World) (u v : Value) (e : TypeId) : ∀ j x, [u, v][j]? = some x → (w.alloc (.cells #[u, v] e)).cell? ((⟨w.heap.size, 0, none⟩ : Addr).add j) = some x :=
  World.news_of_block (cs := #[u, v]) (t := e) (fr := (0, 0)) (heap_alloc_new w _)
set_option maxHeartbeats 4000000 in
set_option maxRecDepth 100000 in
theorem with_any (l : List FileB) (f : FileB) (A : Option Addr) (c : Nat) (w : World) (hF : Files w w.heap.size A l) (hn : l.length ≤ 1000) :
    Calls Tryd.prog 66 #[.slice A l.length c, .agg #[.string f.1, .string f.2]] w fun e w' => ∃ (A' : Option Addr) (cap : Nat), e = .returned (.slice A' (withL l f).length cap) ∧
      w'.ownsRow w.heap.size 36 2 (.slice A' (withL l f).length cap) (withL l f).length (fcells (withL l f)) ∧ Below w.heap.size w w' := by
  obtain ⟨W0, hW0⟩ : ∃ W0, W0 = w.alloc (.cells #[.string f.1, .string f.2] 36) := ⟨_, rfl⟩
  have hbox := Blk.new w 36 #[.string f.1, .string f.2]
  rw [← hW0] at hbox
  have hz0 : W0.heap.size = w.heap.size + 1 := by rw [hW0, World.size_alloc]
  have hBw : Below w.heap.size w W0 := by rw [hW0]; exact (Below.refl _ _).alloc (Nat.le_refl _) _
  have hF0 : Files W0 W0.heap.size A l := (hF.below hBw (Nat.le_refl _)).more (by omega)
  have hown0 := World.ownsRow_lit (base := W0.heap.size) (e := 36) (size := 2) W0 #[] 0 (Nat.le_refl _) (by decide) rfl
  have hcb : ∀ wr, Below W0.heap.size W0 wr → wr.cell? ⟨w.heap.size, 0, none⟩ = some (.string f.1) ∧ wr.cell? ⟨w.heap.size, 1, none⟩ = some (.string f.2) := fun wr hb =>
    ⟨((hbox.below hb (by omega)).cell 0).trans rfl, ((hbox.below hb (by omega)).cell 1).trans rfl⟩
  have hwl : withL l f = if (withTo l f).2 = true then (withTo l f).1 else (withTo l f).1 ++ [f] := rfl
  have hst := fun k => withTo_snoc l f k
  have hsh := fun k => withTo_short (l.take k) f
  obtain ⟨R, hR⟩ : ∃ R, R = withL l f := ⟨_, rfl⟩
  rw [← hR] at hwl ⊢
  have HF := Lib.hid hF0
  have HWL := Lib.hid hwl
  have HST := Lib.hid hst
  have HSH := Lib.hid hsh
  have HOWN := Lib.hid hown0
  have HCB := Lib.hid hcb
  have HW0 := Lib.hid hW0
  clear hF hF0 hwl hst hsh hR hown0 hbox hcb hW0
  obtain ⟨i0, hi, hz0', hz1, hz2⟩ := info_parts info36p
  go_enter Tryd.func66, Tryd.ntmps66
  go_wp2
  rw [← HW0.out]
  go_loopw [5, 6, 7, 11] (fun o d _ i wr => ∃ (k n : Nat) (A' : Option Addr) (cap : Nat) (db : Bool), k ≤ l.length ∧ n ≤ k + 1 ∧ i = .int .i64 k ∧ o = .slice A' n cap ∧ d = .bool db ∧ Hid (n = (withTo (l.take k) f).1.length) ∧ Hid (db = (withTo (l.take k) f).2) ∧
    wr.ownsRow W0.heap.size 36 2 (.slice A' n cap) n (fcells (withTo (l.take k) f).1) ∧ Below W0.heap.size W0 wr) (fun _ _ _ i _ => l.length - (intOf i).toNat)
  case atStart => exact ⟨0, 0, _, 0, false, by omega, by omega, rfl, rfl, rfl, Lib.hid rfl, Lib.hid rfl, (by have h5 := HOWN.out; rw [show (⟨W0.heap.size, 0, none⟩ : Addr) = ⟨w.heap.size + 1, 0, none⟩ from by rw [hz0]] at h5; exact h5), (Below.refl _ _).alloc (Nat.le_refl _) _⟩
  case round =>
    obtain ⟨k, n, A', cap, db, hk, hnk, rfl, rfl, rfl, hnn, hdd, hown, hB⟩ := hrel
    by_cases hlt : k < l.length
    · obtain ⟨a, rfl, hab, hc⟩ := HF.out (by omega)
      have hall : ∀ w', Below W0.heap.size W0 w' → w'.cell? (a.add (k * 2)) = some (.string l[k].1) ∧ w'.cell? ⟨(a.add (k * 2)).block, (a.add (k * 2)).off + 1, none⟩ = some (.string l[k].2) ∧ w'.cell? ⟨w.heap.size, 0, none⟩ = some (.string f.1) ∧ w'.cell? ⟨w.heap.size, 1, none⟩ = some (.string f.2) := fun w' hb =>
        ⟨(hb.cell (p := a.add (k * 2)) (by rw [add_block]; omega)).trans (hc k l[k] (List.getElem?_eq_getElem hlt)).1, (hb.cell (p := ⟨(a.add (k * 2)).block, (a.add (k * 2)).off + 1, none⟩) (by show (a.add (k * 2)).block < _; rw [add_block]; omega)).trans (hc k l[k] (List.getElem?_eq_getElem hlt)).2, (HCB.out w' hb).1, (HCB.out w' hb).2⟩
      have hst := HST.out k hlt
      obtain ⟨g, hg⟩ : ∃ g, g = l[k] := ⟨_, rfl⟩
      rw [← hg] at hst hall
      obtain ⟨c1, c2, x1, x2⟩ := hall wr hB
      obtain ⟨xs, hxs⟩ : ∃ xs, xs = (withTo (l.take k) f).1 := ⟨_, rfl⟩
      have hpair : withTo (l.take k) f = (xs, db) := by rw [hxs, hdd.out]
      rw [hpair] at hst
      rw [← hxs] at hnn hown
      have HS := Lib.hid hst
      have HALL := Lib.hid hall
      have hsz := hB.size
      clear hg hc hst hxs hpair hdd hall
      have q1 : (0 : Int) ≤ (k : Int) := by omega
      have q2 : (k : Int) < (l.length : Int) := by omega
      have hw : ∀ (d le eq : Bool), leF f g = le → (g.1.toList == f.1.toList) = eq → wstep f (xs, d) g = ((if (!d && le) = true then xs ++ [f] else xs) ++ (if eq = true then [] else [g]), d || le) := fun d le eq h1 h2 => by
        unfold wstep
        simp only [h1, h2]
      have HWS := Lib.hid hw
      clear hw
      cases db with
      | true =>
        cases he : g.1.toList == f.1.toList with
        | true =>
          have e1 : g.1.toList = f.1.toList := beq_iff_eq.1 he
          have hw : wstep f (xs, true) g = (xs, true) := by rw [HWS.out true _ _ rfl he]; simp
          have HW := Lib.hid hw
          clear hw
          have E1 := Lib.hid e1
          clear e1
          go_wp2_with fail
          go_quiet (fail)
          have hown1' : (wr.drewN nq).ownsRow W0.heap.size 36 2 (.slice A' n cap) n (fcells xs) := hown
          have hB1' := below_drewN hB nq
          obtain ⟨y11, y21, y31, y41⟩ := HALL.out _ hB1'
          generalize wr.drewN nq = W1 at *
          have hsz1 := hB1'.size
          go_wp2_with fail
          go_quiet (fail)
          have hown3' : (W1.drewN nq).ownsRow W0.heap.size 36 2 (.slice A' n cap) n (fcells xs) := hown1'
          have hB3' := below_drewN hB1' nq
          obtain ⟨y13, y23, y33, y43⟩ := HALL.out _ hB3'
          generalize W1.drewN nq = W3 at *
          have hsz3 := hB3'.size
          go_wp2_with fail
          go_roundw
          case rel => exact ⟨k + 1, n, A', cap, true, by omega, by omega, by go_num, rfl, rfl, Lib.hid (by rw [HS.out, HW.out]; simp [hnn.out]), Lib.hid (by rw [HS.out, HW.out]), by rw [HS.out, HW.out]; simpa [fcells_append, fcells_one] using hown3', hB3'⟩
          case measure => simp [intOf]; omega
        | false =>
          have e1 : ¬ g.1.toList = f.1.toList := beq_eq_false_iff_ne.1 he
          have hw : wstep f (xs, true) g = (xs ++ [g], true) := by rw [HWS.out true _ _ rfl he]; simp
          have HW := Lib.hid hw
          clear hw
          go_wp2_with fail
          go_quiet (fail)
          have hown1' : (wr.drewN nq).ownsRow W0.heap.size 36 2 (.slice A' n cap) n (fcells xs) := hown
          have hB1' := below_drewN hB nq
          obtain ⟨y11, y21, y31, y41⟩ := HALL.out _ hB1'
          generalize wr.drewN nq = W1 at *
          have hsz1 := hB1'.size
          go_wp2_with fail
          go_quiet (fail)
          have hown3' : (W1.drewN nq).ownsRow W0.heap.size 36 2 (.slice A' n cap) n (fcells xs) := hown1'
          have hB3' := below_drewN hB1' nq
          obtain ⟨y13, y23, y33, y43⟩ := HALL.out _ hB3'
          generalize W1.drewN nq = W3 at *
          have hsz3 := hB3'.size
          go_wp2_with (at_builtin; refine wpList_append_lies _ rfl (.tmp 38) (.tmp 43) 22 rfl W0.heap.size 36 i0 (.agg #[.string ⟨#[]⟩, .string ⟨#[]⟩]) 2 32 Tryd.underlying22 hi hz0' hz1 hz2 rfl (by decide) (.slice A' n cap) (n) _ rfl (hown3'.alloc _) ⟨W3.heap.size, 0, none⟩ 1 1 [.string g.1, .string g.2] rfl rfl (news_two _ _ _ _) (by simp [Value.oneCell']) (by decide) (by unfold maxLen; omega) (by omega) (by simp; omega) _ rfl ?_; intro g5 cap5 w5 hown5 hgrow5 hat5 hg5)
          go_roundw
          case rel => exact ⟨k + 1, n + 1, some ⟨g5, 0, none⟩, cap5, true, by omega, by have := HSH.out (k + 1); rw [HS.out, HW.out, List.length_take] at this; have := hnn.out; simp at *; omega, by go_num, rfl, rfl, Lib.hid (by rw [HS.out, HW.out]; simp [hnn.out]), Lib.hid (by rw [HS.out, HW.out]), by rw [HS.out, HW.out]; simpa [fcells_append, fcells_one, fcells_two] using hown5, (hB3'.alloc hsz3 _).grown hgrow5 (by simp; omega) (fun j e => (hown3'.lt _ e).1)⟩
          case measure => simp [intOf]; omega
      | false =>
        cases hle : leF f g with
        | true =>
          have l1 : (Op.bytesLess f.1.toList g.1.toList || f.1.toList == g.1.toList) = true := hle
          cases he : g.1.toList == f.1.toList with
          | true =>
            have e1 : g.1.toList = f.1.toList := beq_iff_eq.1 he
            have hw : wstep f (xs, false) g = (xs ++ [f], true) := by rw [HWS.out false _ _ hle he]; simp
            have HW := Lib.hid hw
            clear hw hle
            have E1 := Lib.hid e1
            clear e1
            go_wp2_with fail
            go_quiet (fail)
            have hown1' : (wr.drewN nq).ownsRow W0.heap.size 36 2 (.slice A' n cap) n (fcells xs) := hown
            have hB1' := below_drewN hB nq
            obtain ⟨y11, y21, y31, y41⟩ := HALL.out _ hB1'
            generalize wr.drewN nq = W1 at *
            have hsz1 := hB1'.size
            go_wp2_with (at_builtin; refine wpList_append_lies _ rfl (.tmp 26) (.tmp 28) 22 rfl W0.heap.size 36 i0 (.agg #[.string ⟨#[]⟩, .string ⟨#[]⟩]) 2 32 Tryd.underlying22 hi hz0' hz1 hz2 rfl (by decide) (.slice A' n cap) (n) _ rfl (hown1'.alloc _) ⟨W1.heap.size, 0, none⟩ 1 1 [.string f.1, .string f.2] rfl rfl (news_two _ _ _ _) (by simp [Value.oneCell']) (by decide) (by unfold maxLen; omega) (by omega) (by simp; omega) _ rfl ?_; intro g2 cap2 w2 hown2 hgrow2 hat2 hg2)
            have hB2 := (hB1'.alloc hsz1 (.cells #[.string f.1, .string f.2] 36)).grown hgrow2 (by simp; omega) (fun j e => (hown1'.lt _ e).1)
            obtain ⟨z1, z2, z3, z4⟩ := HALL.out w2 hB2
            have hcast : ((n : Nat) : Int) + 1 = ((n + 1 : Nat) : Int) := by omega
            clear hcast
            go_wp2_with fail
            go_quiet (fail)
            have hown3' : (w2.drewN nq).ownsRow W0.heap.size 36 2 (.slice (some ⟨g2, 0, none⟩) (n + 1) cap2) (n + 1) (fcells xs ++ [.string f.1, .string f.2]) := hown2
            have hB3' := below_drewN hB2 nq
            obtain ⟨y13, y23, y33, y43⟩ := HALL.out _ hB3'
            generalize w2.drewN nq = W3 at *
            have hsz3 := hB3'.size
            go_wp2_with fail
            go_roundw
            case rel => exact ⟨k + 1, n + 1, (some ⟨g2, 0, none⟩), cap2, true, by omega, by omega, by go_num, rfl, rfl, Lib.hid (by rw [HS.out, HW.out]; simp [hnn.out]), Lib.hid (by rw [HS.out, HW.out]), by rw [HS.out, HW.out]; simpa [fcells_append, fcells_one] using hown3', hB3'⟩
            case measure => simp [intOf]; omega
          | false =>
            have e1 : ¬ g.1.toList = f.1.toList := beq_eq_false_iff_ne.1 he
            have hw : wstep f (xs, false) g = (xs ++ [f] ++ [g], true) := by rw [HWS.out false _ _ hle he]; simp
            have HW := Lib.hid hw
            clear hw hle
            go_wp2_with fail
            go_quiet (fail)
            have hown1' : (wr.drewN nq).ownsRow W0.heap.size 36 2 (.slice A' n cap) n (fcells xs) := hown
            have hB1' := below_drewN hB nq
            obtain ⟨y11, y21, y31, y41⟩ := HALL.out _ hB1'
            generalize wr.drewN nq = W1 at *
            have hsz1 := hB1'.size
            go_wp2_with (at_builtin; refine wpList_append_lies _ rfl (.tmp 26) (.tmp 28) 22 rfl W0.heap.size 36 i0 (.agg #[.string ⟨#[]⟩, .string ⟨#[]⟩]) 2 32 Tryd.underlying22 hi hz0' hz1 hz2 rfl (by decide) (.slice A' n cap) (n) _ rfl (hown1'.alloc _) ⟨W1.heap.size, 0, none⟩ 1 1 [.string f.1, .string f.2] rfl rfl (news_two _ _ _ _) (by simp [Value.oneCell']) (by decide) (by unfold maxLen; omega) (by omega) (by simp; omega) _ rfl ?_; intro g2 cap2 w2 hown2 hgrow2 hat2 hg2)
            have hB2 := (hB1'.alloc hsz1 (.cells #[.string f.1, .string f.2] 36)).grown hgrow2 (by simp; omega) (fun j e => (hown1'.lt _ e).1)
            obtain ⟨z1, z2, z3, z4⟩ := HALL.out w2 hB2
            have hcast : ((n : Nat) : Int) + 1 = ((n + 1 : Nat) : Int) := by omega
            clear hcast
            go_wp2_with fail
            go_quiet (fail)
            have hown3' : (w2.drewN nq).ownsRow W0.heap.size 36 2 (.slice (some ⟨g2, 0, none⟩) (n + 1) cap2) (n + 1) (fcells xs ++ [.string f.1, .string f.2]) := hown2
            have hB3' := below_drewN hB2 nq
            obtain ⟨y13, y23, y33, y43⟩ := HALL.out _ hB3'
            generalize w2.drewN nq = W3 at *
            have hsz3 := hB3'.size
            go_wp2_with (at_builtin; refine wpList_append_lies _ rfl (.tmp 38) (.tmp 43) 22 rfl W0.heap.size 36 i0 (.agg #[.string ⟨#[]⟩, .string ⟨#[]⟩]) 2 32 Tryd.underlying22 hi hz0' hz1 hz2 rfl (by decide) (.slice (some ⟨g2, 0, none⟩) (n + 1) cap2) (n + 1) _ rfl (hown3'.alloc _) ⟨W3.heap.size, 0, none⟩ 1 1 [.string g.1, .string g.2] rfl rfl (news_two _ _ _ _) (by simp [Value.oneCell']) (by decide) (by unfold maxLen; omega) (by omega) (by simp; omega) _ rfl ?_; intro g5 cap5 w5 hown5 hgrow5 hat5 hg5)
            go_roundw
            case rel => exact ⟨k + 1, n + 1 + 1, some ⟨g5, 0, none⟩, cap5, true, by omega, by have := HSH.out (k + 1); rw [HS.out, HW.out, List.length_take] at this; have := hnn.out; simp at *; omega, by go_num, rfl, rfl, Lib.hid (by rw [HS.out, HW.out]; simp [hnn.out]), Lib.hid (by rw [HS.out, HW.out]), by rw [HS.out, HW.out]; simpa [fcells_append, fcells_one, fcells_two] using hown5, (hB3'.alloc hsz3 _).grown hgrow5 (by simp; omega) (fun j e => (hown3'.lt _ e).1)⟩
            case measure => simp [intOf]; omega
        | false =>
          have l1 : (Op.bytesLess f.1.toList g.1.toList || f.1.toList == g.1.toList) = false := hle
          have he : (g.1.toList == f.1.toList) = false := eqB_false (ltB_ne (leF_not hle))
          have e1 : ¬ g.1.toList = f.1.toList := beq_eq_false_iff_ne.1 he
          have hw : wstep f (xs, false) g = (xs ++ [g], false) := by rw [HWS.out false _ _ hle he]; simp
          have HW := Lib.hid hw
          clear hw hle
          go_wp2_with fail
          go_quiet (fail)
          have hown1' : (wr.drewN nq).ownsRow W0.heap.size 36 2 (.slice A' n cap) n (fcells xs) := hown
          have hB1' := below_drewN hB nq
          obtain ⟨y11, y21, y31, y41⟩ := HALL.out _ hB1'
          generalize wr.drewN nq = W1 at *
          have hsz1 := hB1'.size
          go_wp2_with fail
          go_quiet (fail)
          have hown3' : (W1.drewN nq).ownsRow W0.heap.size 36 2 (.slice A' n cap) n (fcells xs) := hown1'
          have hB3' := below_drewN hB1' nq
          obtain ⟨y13, y23, y33, y43⟩ := HALL.out _ hB3'
          generalize W1.drewN nq = W3 at *
          have hsz3 := hB3'.size
          go_wp2_with (at_builtin; refine wpList_append_lies _ rfl (.tmp 38) (.tmp 43) 22 rfl W0.heap.size 36 i0 (.agg #[.string ⟨#[]⟩, .string ⟨#[]⟩]) 2 32 Tryd.underlying22 hi hz0' hz1 hz2 rfl (by decide) (.slice A' n cap) (n) _ rfl (hown3'.alloc _) ⟨W3.heap.size, 0, none⟩ 1 1 [.string g.1, .string g.2] rfl rfl (news_two _ _ _ _) (by simp [Value.oneCell']) (by decide) (by unfold maxLen; omega) (by omega) (by simp; omega) _ rfl ?_; intro g5 cap5 w5 hown5 hgrow5 hat5 hg5)
          go_roundw
          case rel => exact ⟨k + 1, n + 1, some ⟨g5, 0, none⟩, cap5, false, by omega, by have := HSH.out (k + 1); rw [HS.out, HW.out, List.length_take] at this; have := hnn.out; simp at *; omega, by go_num, rfl, rfl, Lib.hid (by rw [HS.out, HW.out]; simp [hnn.out]), Lib.hid (by rw [HS.out, HW.out]), by rw [HS.out, HW.out]; simpa [fcells_append, fcells_one, fcells_two] using hown5, (hB3'.alloc hsz3 _).grown hgrow5 (by simp; omega) (fun j e => (hown3'.lt _ e).1)⟩
          case measure => simp [intOf]; omega
    · have hfin : l.take k = l := List.take_of_length_le (by omega)
      rw [hfin] at hown hnn hdd
      have hnn2 := hnn.out
      obtain ⟨x1, x2⟩ := HCB.out wr hB
      have hsz := hB.size
      clear hfin
      cases db with
      | true =>
        have hR : R = (withTo l f).1 := by rw [HWL.out, if_pos hdd.out.symm]
        rw [← hR] at hown hnn2
        have HR := Lib.hid hR
        clear hR hnn hdd
        subst hnn2
        go_wp2
        go_ret
        exact ⟨_, _, rfl, own_more hown (by omega), hBw.trans (hB.mono (by omega))⟩
      | false =>
        have hR : R = (withTo l f).1 ++ [f] := by rw [HWL.out, if_neg (by rw [← hdd.out]; simp)]
        have hRl : R.length = n + 1 := by rw [hR, List.length_append, ← hnn2]; rfl
        have HR := Lib.hid hR
        have HRL := Lib.hid hRl
        clear hR hRl hnn hnn2 hdd
        go_wp2_with (at_builtin; refine wpList_append_lies _ rfl (.tmp 48) (.tmp 50) 22 rfl W0.heap.size 36 i0 (.agg #[.string ⟨#[]⟩, .string ⟨#[]⟩]) 2 32 Tryd.underlying22 hi hz0' hz1 hz2 rfl (by decide) (.slice A' n cap) (n) _ rfl (hown.alloc _) ⟨wr.heap.size, 0, none⟩ 1 1 [.string f.1, .string f.2] rfl rfl (news_two _ _ _ _) (by simp [Value.oneCell']) (by decide) (by unfold maxLen; omega) (by omega) (by simp; omega) _ rfl ?_; intro g5 cap5 w5 hown5 hgrow5 hat5 hg5)
        go_ret
        refine ⟨some ⟨g5, 0, none⟩, cap5, by rw [HRL.out]; rfl, ?_, hBw.trans (((hB.alloc hsz _).grown hgrow5 (by simp; omega) (fun j e => (hown.lt _ e).1)).mono (by omega))⟩
        rw [HRL.out, HR.out, fcells_append, fcells_one]
        exact own_more hown5 (by omega)
end Go.Proofs.YtjpaajpjajoijaaDoor
