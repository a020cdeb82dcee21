/- bloomeryref03.Parts: a text, cut at its strokes. -/
import Derived.Test.YtjpaajpjajoijaaDoorProg
import Derived.Test.YtjpaajpjajoijaaDoorKit
import Derived.Test.YtjpaajpjajoijaaDoorTail
import Derived.Deep.AppendLies
import Derived.Laws.OwnMore
import Derived.IntWalk
import Derived.Deep.QuietTactic
import Derived.BigQuiet
namespace Go.Proofs.YtjpaajpjajoijaaDoor
set_option linter.unusedVariables false
open Go.RowKit
/-- The parts that the first bytes tell. -/
def partsTo (l : List UInt8) : List (List UInt8) := l.foldl (fun p c => if c = 47 then p ++ [[]] else p.dropLast ++ [p.getLast?.getD [] ++ [c]]) [[]]
theorem partsTo_snoc (l : List UInt8) (c : UInt8) : partsTo (l ++ [c]) = if c = 47 then partsTo l ++ [[]] else (partsTo l).dropLast ++ [(partsTo l).getLast?.getD [] ++ [c]] := by
  unfold partsTo
  rw [List.foldl_append]
  rfl
theorem partsTo_ne (l : List UInt8) : partsTo l ≠ [] := by
  rcases List.eq_nil_or_concat l with rfl | ⟨l, c, rfl⟩
  · simp [partsTo]
  · rw [List.concat_eq_append, partsTo_snoc]
    split <;> simp
theorem parts_fold : ∀ (l : List UInt8) (p : List (List UInt8)), p ≠ [] → (l.foldl (fun p c => if c = 47 then p ++ [[]] else p.dropLast ++ [p.getLast?.getD [] ++ [c]]) p).length ≤ p.length + l.length
  | [], p, _ => by simp
  | c :: l, p, hp => by
    have hl : 0 < p.length := List.length_pos_iff.2 hp
    rw [List.foldl_cons]
    by_cases hc : c = 47
    · rw [if_pos hc]
      have := parts_fold l (p ++ [[]]) (by simp)
      simp at this ⊢
      omega
    · rw [if_neg hc]
      have := parts_fold l (p.dropLast ++ [p.getLast?.getD [] ++ [c]]) (by simp)
      simp at this ⊢
      omega
theorem partsTo_le (l : List UInt8) : (partsTo l).length ≤ l.length + 1 := by
  have := parts_fold l [[]] (by simp)
  simp at this
  unfold partsTo
  omega
theorem parts_fold_small : ∀ (l : List UInt8) (p : List (List UInt8)) (N : Nat), (∀ x ∈ p, x.length ≤ N) → ∀ x ∈ l.foldl (fun p c => if c = 47 then p ++ [[]] else p.dropLast ++ [p.getLast?.getD [] ++ [c]]) p, x.length ≤ N + l.length
  | [], p, N, h, x, hx => by have := h x hx; simp; omega
  | c :: l, p, N, h, x, hx => by
    rw [List.foldl_cons] at hx
    have h2 := parts_fold_small l _ (N + 1) (fun y hy => ?_) x hx
    · simp at h2 ⊢; omega
    · by_cases hc : c = 47
      · rw [if_pos hc] at hy
        rcases List.mem_append.1 hy with h3 | h3
        · have := h y h3; omega
        · simp at h3; simp [h3]
      · rw [if_neg hc] at hy
        rcases List.mem_append.1 hy with h3 | h3
        · have := h y ((List.dropLast_sublist p).subset h3); omega
        · simp at h3
          cases hq : p.getLast? with
          | none => rw [h3, hq]; simp
          | some z =>
            have := h z (List.mem_of_getLast? hq)
            rw [h3, hq]; simp; omega
theorem parts_small (l x : List UInt8) (h : x ∈ partsTo l) : x.length ≤ l.length := by
  have := parts_fold_small l [[]] 0 (by simp) x h
  omega
def Sv (x : List UInt8) : Value := .string ⟨x.toArray⟩
theorem info9 : (Tryd.prog.info? 9).map (fun i => (i.zero, i.size, i.bytes)) = some (some (.string ⟨#[]⟩), 1, 16) := by kernel_rfl
theorem news_one (w : World) (v : Value) (e : TypeId) : ∀ j u, [v][j]? = some u → (w.alloc (.cells #[v] e)).cell? ((⟨w.heap.size, 0, none⟩ : Addr).add j) = some u :=
  World.news_of_block (cs := #[v]) (t := e) (fr := (0, 0)) (heap_alloc_new w _)
set_option maxHeartbeats 400000 in
set_option maxRecDepth 100000 in
theorem parts_any (s : ByteArray) (w : World) (hs : s.size ≤ 1000000) :
    Calls Tryd.prog 38 #[.string s] w fun e w' => ∃ (g cap : Nat), e = .returned (.slice (some ⟨g, 0, none⟩) (partsTo s.data.toList).length cap) ∧
      w'.ownsRow w.heap.size 9 1 (.slice (some ⟨g, 0, none⟩) (partsTo s.data.toList).length cap) (partsTo s.data.toList).length ((partsTo s.data.toList).map Sv) ∧ Below w.heap.size w w' := by
  obtain ⟨i0, hi, hz0, hz1, hz2⟩ := info_parts info9
  go_enter Tryd.func38, Tryd.ntmps38
  go_wp2
  go_loopw [3, 4] (fun v i wr => ∃ (k n g cap : Nat), k ≤ s.size ∧ i = .int .i64 k ∧ n = (partsTo (s.data.toList.take k)).length ∧ v = .slice (some ⟨g, 0, none⟩) n cap ∧ wr.ownsRow w.heap.size 9 1 (.slice (some ⟨g, 0, none⟩) n cap) n ((partsTo (s.data.toList.take k)).map Sv) ∧ Below w.heap.size w wr) (fun _ i _ => s.size - (intOf i).toNat)
  case atStart =>
    have hown := World.ownsRow_lit (base := w.heap.size) (e := 9) (size := 1) w #[Sv []] 1 (Nat.le_refl _) (by decide) rfl
    exact ⟨0, 1, w.heap.size, 1, by omega, rfl, rfl, rfl, hown, (Below.refl _ _).alloc (Nat.le_refl _) _⟩
  case round =>
    obtain ⟨k, n, g, cap, hk, rfl, hn, rfl, hown, hB⟩ := hrel
    have hsz := hB.size
    have hnl : n ≤ 1000001 := by
      have h1 := partsTo_le (s.data.toList.take k)
      rw [List.length_take] at h1
      omega
    have hn0 : 0 < n := by rw [hn]; exact List.length_pos_iff.2 (partsTo_ne _)
    have HN := Lib.hid hn
    clear hn
    by_cases hlt : k < s.size
    · have hts : s.data.toList.take (k + 1) = s.data.toList.take k ++ [s[k]] := by
        rw [List.take_succ_eq_append_getElem (by simpa using hlt)]; rfl
      have hps := partsTo_snoc (s.data.toList.take k) s[k]
      rw [← hts] at hps
      have HPS := Lib.hid hps
      clear hts hps
      by_cases h47 : s[k] = 47
      · have e47 : ((s[k].toNat : Int) == 47) = true := by rw [h47]; rfl
        have H47 := Lib.hid h47
        clear h47
        go_wp2_with (at_builtin; refine wpList_append_lies _ rfl (.tmp 16) (.tmp 17) 47 rfl w.heap.size 9 i0 (.string ⟨#[]⟩) 1 16 Tryd.underlying47 hi hz0 hz1 hz2 rfl (by decide) (.slice (some ⟨g, 0, none⟩) n cap) n _ rfl (hown.alloc _) ⟨wr.heap.size, 0, none⟩ 1 1 [.string ⟨#[]⟩] rfl rfl (news_one _ _ _) (by simp [Value.oneCell']) (by decide) (by unfold maxLen; omega) (by omega) (by simp; omega) _ rfl ?_; intro g2 cap2 w2 hown2 hgrow hat hg2)
        go_roundw
        case rel =>
          have hp : partsTo (s.data.toList.take (k + 1)) = partsTo (s.data.toList.take k) ++ [[]] := by rw [HPS.out, if_pos H47.out]
          refine ⟨k + 1, n + 1, g2, cap2, by omega, by go_num, by rw [hp, HN.out]; simp, rfl, ?_, (hB.alloc hsz _).grown hgrow (by simp; omega) (fun j e => (hown.lt _ e).1)⟩
          rw [hp, List.map_append]
          exact hown2
        case measure => simp [intOf]; omega
      · have e47 : ((s[k].toNat : Int) == 47) = false := by
          have : s[k].toNat ≠ 47 := fun h => h47 (UInt8.toNat_inj.1 h)
          simp; omega
        have H47 := Lib.hid h47
        clear h47
        obtain ⟨p, hp⟩ : ∃ p, p = partsTo (s.data.toList.take k) := ⟨_, rfl⟩
        rw [← hp] at hown
        have HP := Lib.hid hp
        have hpn : p.length = n := by rw [hp, HN.out]
        have hlast := hown.cellAt (n - 1) (by omega)
        rw [List.getElem?_eq_getElem (by rw [List.length_map]; omega), List.getElem_map] at hlast
        obtain ⟨L, hL⟩ : ∃ L, L = p[n - 1]'(by omega) := ⟨_, rfl⟩
        rw [← hL] at hlast
        have hfz := hown.frozenAt (n - 1)
        have hset : ∀ c, (p.map Sv).set (n - 1) (.string (⟨L.toArray⟩ ++ ⟨#[c]⟩)) = (p.dropLast ++ [p.getLast?.getD [] ++ [c]]).map Sv := fun c => by
          rcases List.eq_nil_or_concat p with h0 | ⟨q, x, h0⟩
          · rw [h0] at hpn; simp at hpn; omega
          · subst h0
            have hq : q.length = n - 1 := by simp at hpn; omega
            have hx : L = x := by rw [hL]; simp [← hq]
            rw [hx, ← hq]
            simp [Sv]
            apply ByteArray.ext
            apply Array.toList_inj.1
            simp
        have HSET := Lib.hid hset
        have HPN := Lib.hid hpn
        unfold Sv at hlast
        obtain ⟨LB, hLB⟩ : ∃ LB : ByteArray, LB = ⟨L.toArray⟩ := ⟨_, rfl⟩
        rw [← hLB] at hlast
        have hLs : LB.size ≤ 1000000 := by
          have h1 := parts_small (s.data.toList.take k) L (by rw [← hp, hL]; exact List.getElem_mem _)
          rw [List.length_take] at h1
          rw [hLB]
          show L.length ≤ _
          omega
        have hEx : s.extract k (k + 1) = ⟨#[s[k]]⟩ := by
          apply ByteArray.ext
          rw [ByteArray.data_extract]
          apply Array.toList_inj.1
          simp only [Array.toList_extract, List.extract_eq_take_drop]
          rw [List.drop_eq_getElem_cons (show k < s.data.toList.length from hlt)]
          simp
          rfl
        obtain ⟨E, hE⟩ : ∃ E : ByteArray, E = s.extract k (k + 1) := ⟨_, rfl⟩
        have hEs : E.size = 1 := by rw [hE, hEx]; rfl
        have q12 : (LB.size : Int) + 1 ≤ 9223372036854775807 := by omega
        have q13 : LB.size + 1 ≤ 9223372036854775807 := by omega
        have q14 : ¬ (9223372036854775807 < LB.size + 1) := by omega
        have HLB := Lib.hid hLB
        have hE' := hE.symm
        have HEX := Lib.hid hEx
        clear hp hL hset hpn hLB hEx hE
        go_wp2
        have q1 : (0 : Int) ≤ (n : Int) - 1 := by omega
        have q2 : (n : Int) - 1 < (n : Int) := by omega
        have q9 : (1 : Int) ≤ (n : Int) := by omega
        have q10 : (k : Int) < (s.size : Int) := by omega
        have q11 : (k : Int) ≤ (k : Int) + 1 := by omega
        have q3 : ((n : Int) - 1).toNat = n - 1 := by omega
        have q4 : (0 : Int) ≤ (k : Int) + 1 := by omega
        have q5 : (k : Int) + 1 ≤ (s.size : Int) := by omega
        have q6 : ((k : Int) + 1).toNat = k + 1 := by omega
        have q7 : IntKind.i64.wrap ((n : Int) - 1) = (n : Int) - 1 := IntWalk.i64_in _ (by omega)
        have q8 : IntKind.i64.wrap ((k : Int) + 1) = (k : Int) + 1 := IntWalk.i64_in _ (by omega)
        refine wp_region_quiet_tail 17 (by kernel_rfl) (by kernel_rfl) ?_
        simp only [List.take_succ_cons, List.take_zero, List.drop_succ_cons, List.drop_zero]
        repeat (quiet_step (fail))
        refine wpQuiet_nil ?_
        rintro _ ⟨nq2, rfl⟩
        go_wp2_with fail
        go_roundw
        case rel =>
          have hp2 : partsTo (s.data.toList.take (k + 1)) = p.dropLast ++ [p.getLast?.getD [] ++ [s[k]]] := by rw [HPS.out, if_neg H47.out, HP.out]
          have hst := (hown.stored (n - 1) (.string (LB ++ E))).1
          rw [← hE', HEX.out, HLB.out, HSET.out s[k], ← hp2] at hst
          refine ⟨k + 1, n, g, cap, by omega, by go_num, ?_, rfl, ?_, (below_drewN hB nq2).setCell (p := ⟨g, n - 1, none⟩) (hown.lt _ rfl).1 _⟩
          · rw [hp2]
            have := HPN.out
            simp
            omega
          · rw [← hE', HEX.out, HLB.out]
            exact hst
        case measure => simp [intOf]; omega
    · have hfin : s.data.toList.take k = s.data.toList := List.take_of_length_le (by simp; omega)
      rw [hfin] at hown HN
      clear hfin
      go_wp2
      go_ret
      have hn := HN.out
      subst hn
      exact ⟨g, cap, rfl, hown, hB⟩
end Go.Proofs.YtjpaajpjajoijaaDoor
