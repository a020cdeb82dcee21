/- bloomeryref05.Put, Drop, Same. -/
import Derived.Test.YtjpaajpjajoijaaDoorWith
import Derived.Laws.StructEq
namespace Go.Proofs.YtjpaajpjajoijaaDoor
set_option linter.unusedVariables false
open Go.RowKit
/-- Are two files the same? -/
def sameF (f g : FileB) : Bool := f.1.toList == g.1.toList && f.2.toList == g.2.toList
def sameTo (l m : List FileB) : Nat → Bool
  | 0 => true
  | k + 1 => sameTo l m k && (match l[k]?, m[k]? with
    | some f, some g => sameF f g
    | _, _ => false)
/-- Are they the same files? -/
def sameL (l m : List FileB) : Bool := l.length == m.length && sameTo l m l.length
theorem sameF_iff {f g : FileB} : sameF f g = true ↔ f = g := by
  unfold sameF
  rw [Bool.and_eq_true, eqB_iff, eqB_iff]
  exact ⟨fun h => Prod.ext h.1 h.2, fun h => by rw [h]; exact ⟨rfl, rfl⟩⟩
theorem sameTo_self (l : List FileB) : ∀ k, k ≤ l.length → sameTo l l k = true
  | 0, _ => rfl
  | k + 1, h => by
    unfold sameTo
    rw [sameTo_self l k (by omega), List.getElem?_eq_getElem (by omega)]
    exact sameF_iff.2 rfl
theorem sameL_self (l : List FileB) : sameL l l = true := by
  unfold sameL
  rw [sameTo_self l l.length (Nat.le_refl _)]
  simp
theorem sameTo_get (l m : List FileB) : ∀ k, sameTo l m k = true → ∀ j, j < k → l[j]? = m[j]?
  | 0, _, j, h => by omega
  | k + 1, h, j, hj => by
    unfold sameTo at h
    rw [Bool.and_eq_true] at h
    by_cases e : j = k
    · subst e
      revert h
      cases l[j]? <;> cases m[j]? <;> simp
      intro _ h
      exact sameF_iff.1 h
    · exact sameTo_get l m k h.1 j (by omega)
theorem sameTo_down (l m : List FileB) : ∀ n, sameTo l m n = true → ∀ k, k ≤ n → sameTo l m k = true
  | 0, h, k, hk => by rw [show k = 0 from by omega]; exact h
  | n + 1, h, k, hk => by
    by_cases e : k = n + 1
    · rw [e]; exact h
    · unfold sameTo at h
      rw [Bool.and_eq_true] at h
      exact sameTo_down l m n h.1 k (by omega)
theorem sameL_eq {l m : List FileB} (h : sameL l m = true) : l = m := by
  unfold sameL at h
  rw [Bool.and_eq_true, beq_iff_eq] at h
  apply List.ext_getElem?
  intro i
  by_cases hi : i < l.length
  · exact sameTo_get l m _ h.2 i hi
  · rw [List.getElem?_eq_none (by omega), List.getElem?_eq_none (by omega)]
theorem neq36 (f g : FileB) (w : World) : (binOp .neq 36 (.agg #[.string f.1, .string f.2]) (.agg #[.string g.1, .string g.2])).run Tryd.prog w = .ok (.bool (!sameF f g)) w := by
  unfold sameF
  rw [run_neq_struct, run_equalIn_agg _ _ _ _ _ (by kernel_rfl) (by kernel_rfl)]
  have e : (Tryd.prog.fieldsOf 36).toList = [{ name := "Path", type := 9, offset := 0, embedded := false, tag := "", pkgPath := "", byteOffset := 0 }, { name := "Data", type := 9, offset := 1, embedded := false, tag := "", pkgPath := "", byteOffset := 16 }] := by kernel_rfl
  rw [e]
  have h9 : ∀ (d : Nat) (a b : ByteArray), (Op.equalIn (d + 1) 9 (.string a) (.string b)).run Tryd.prog w = .ok (a.toList == b.toList) w := fun d a b => run_equalIn_string w d 9 a b Tryd.underlying9
  have hp : ∀ (xs : Array Value) (i : Nat) (s : ByteArray), xs[i]? = some (.string s) → (part 9 xs i).run Tryd.prog w = .ok (.string s) w := fun xs i s h => by
    simp [part, Tryd.isAgg9, h]
  have p0 := hp #[.string f.1, .string f.2] 0 f.1 rfl
  have p1 := hp #[.string f.1, .string f.2] 1 f.2 rfl
  have r0 := hp #[.string g.1, .string g.2] 0 g.1 rfl
  have r1 := hp #[.string g.1, .string g.2] 1 g.2 rfl
  simp only [Op.eqFields, Sem.run_bind, Sem.run_ite, p0, p1, r0, r1, h9, Result.andThen_ok]
  cases (f.1.toList == g.1.toList) <;> cases (f.2.toList == g.2.toList) <;> simp
set_option maxHeartbeats 2000000 in
set_option maxRecDepth 100000 in
theorem same_any (l m : List FileB) (A B : Option Addr) (c d : Nat) (w : World) (hF : Files w w.heap.size A l) (hG : Files w w.heap.size B m) (hn : l.length ≤ 1000) (hm : m.length ≤ 1000) :
    Calls Tryd.prog 22 #[.slice A l.length c, .slice B m.length d] w fun e w' => e = .returned (.bool (sameL l m)) ∧ Below w.heap.size w w' := by
  have hs : sameL l m = (l.length == m.length && sameTo l m l.length) := rfl
  have hst : ∀ k f g, l[k]? = some f → m[k]? = some g → sameTo l m (k + 1) = (sameTo l m k && sameF f g) := fun k f g h1 h2 => by
    conv => lhs; unfold sameTo
    rw [h1, h2]
  obtain ⟨R, hR⟩ : ∃ R, R = sameL l m := ⟨_, rfl⟩
  rw [← hR] at hs ⊢
  have HF := Lib.hid hF
  have HG := Lib.hid hG
  have HS := Lib.hid hs
  have HST := Lib.hid hst
  clear hF hG hs hst hR
  by_cases hlen : l.length = m.length
  · have q1 : ((l.length : Int) != (m.length : Int)) = false := by rw [bne_eq_false_iff_eq]; omega
    have g1 : l.length ≤ m.length := by omega
    have HLEN := Lib.hid hlen
    clear hlen
    go_enter Tryd.func22, Tryd.ntmps22
    go_wp2
    go_loopw [5, 13] (fun _ i wr => ∃ k : Nat, k ≤ l.length ∧ i = .int .i64 k ∧ Hid (sameTo l m k = true) ∧ ∃ m, wr = w.drewN m) (fun _ i _ => l.length - (intOf i).toNat)
    case atStart => exact ⟨0, by omega, rfl, Lib.hid rfl, 0, rfl⟩
    case round =>
      obtain ⟨k, hk, rfl, hh, mm, rfl⟩ := hrel
      by_cases hlt : k < l.length
      · obtain ⟨a, rfl, hab, hc⟩ := HF.out (by omega)
        obtain ⟨b, rfl, hbb, hd⟩ := HG.out (by omega)
        obtain ⟨c1, c2⟩ := hc k l[k] (List.getElem?_eq_getElem hlt)
        obtain ⟨d1, d2⟩ := hd k (m[k]'(by omega)) (List.getElem?_eq_getElem (by omega))
        have hstep := HST.out k _ _ (List.getElem?_eq_getElem hlt) (List.getElem?_eq_getElem (show k < m.length by omega))
        obtain ⟨f, hf⟩ : ∃ f, f = l[k] := ⟨_, rfl⟩
        obtain ⟨g, hg⟩ : ∃ g, g = m[k]'(by omega) := ⟨_, rfl⟩
        rw [← hf] at c1 c2 hstep
        rw [← hg] at d1 d2 hstep
        rw [hh.out, Bool.true_and] at hstep
        have hne := fun w => neq36 f g w
        obtain ⟨q, hq⟩ : ∃ q, q = sameF f g := ⟨_, rfl⟩
        rw [← hq] at hstep
        simp only [← hq] at hne
        have HSTEP := Lib.hid hstep
        clear hf hg hc hd hstep hq
        have q2 : (0 : Int) ≤ (k : Int) := by omega
        have q3 : (k : Int) < (l.length : Int) := by omega
        have q4 : (k : Int) < (m.length : Int) := by omega
        cases q with
        | true =>
          go_wp2_with fail
          go_quiet (fail)
          clear hne
          go_wp2
          go_roundw
          case rel => exact ⟨k + 1, by omega, by go_num, HSTEP, _, rfl⟩
          case measure => simp [intOf]; omega
        | false =>
          have hall : R = false := by
            have h5 := HSTEP.out
            cases hR : R with
            | false => rfl
            | true =>
              rw [HS.out] at hR
              rw [Bool.and_eq_true] at hR
              have h6 := sameTo_down l m _ hR.2 (k + 1) (by omega)
              rw [h5] at h6
              cases h6
          have HALL := Lib.hid hall
          clear hall
          go_wp2_with fail
          go_quiet (fail)
          clear hne
          go_wp2
          go_ret
          exact ⟨by rw [HALL.out]; rfl, below_drewN (below_drewN (Below.refl _ _) _) _⟩
      · have hfin : R = true := by
          have h5 := hh.out
          rw [show k = l.length from by omega] at h5
          rw [HS.out, h5, HLEN.out]
          simp
        have HFI := Lib.hid hfin
        clear hfin
        go_wp2
        go_ret
        exact ⟨by rw [HFI.out]; rfl, below_drewN (Below.refl _ _) _⟩
  · have q1 : ((l.length : Int) != (m.length : Int)) = true := by rw [bne_iff_ne]; omega
    have hR : R = false := by rw [HS.out, beq_eq_false_iff_ne.2 hlen]; rfl
    have HR := Lib.hid hR
    clear hR hlen
    go_enter Tryd.func22, Tryd.ntmps22
    go_wp2
    go_ret
    exact ⟨by rw [HR.out]; rfl, Below.refl _ _⟩
end Go.Proofs.YtjpaajpjajoijaaDoor
