/- TreeSums: for every input the call returns true, and each argument reads behind the call as it read before. No condition but that the two listed tables of utf8 are what the program's text lays (tied). -/
import Derived.Test.YtjpaajpjajoijaaDoorPostF
import Derived.Stop.LaidErr
import Derived.Test.YtjpaajpjajoijaaDoorSums
namespace Go.Proofs.YtjpaajpjajoijaaDoor
open Go.ChangeShapes Go.WideShapes Go.ChangeAt Go.RowKit
open Go.ChangeMaps (open_string shut_string)
/-- The five tables that the row lists. -/
def laid5 : List (String × DataW Unit) := [("math/bits.deBruijn32tab", Rows.laid_math_bits_deBruijn32tab), ("math/bits.deBruijn64tab", Rows.laid_math_bits_deBruijn64tab), ("internal/strconv.uint64pow10", Rows.laid_internal_strconv_uint64pow10), ("unicode/utf8.acceptRanges", Rows.laid_unicode_utf8_acceptRanges), ("unicode/utf8.first", Rows.laid_unicode_utf8_first)]
theorem pow10_data : (Rows.laid_internal_strconv_uint64pow10 : DataW Unit) = Lib.tabData .u64 Lib.pow10Tab := by rfl
theorem pow10_of_laid {W : World} (h : laidMet Tryd.prog laid5 W) : Pow10 W := by
  have h2 := laidMet.tail (laidMet.tail h)
  rw [pow10_data] at h2
  exact Lib.tabIs_of_head pow10_named (t := 132) (e := 101) (n := 20) (by kernel_rfl) (by kernel_rfl) (by kernel_rfl) (by kernel_rfl) (by kernel_rfl) h2
set_option maxRecDepth 100000 in
set_option linter.unusedVariables false in
set_option linter.unusedSimpArgs false in
theorem treeSums_lifted (os : Os) (started : os.Started) (H : Type) (enc : TypeId × Value → H) :
    ReturnsInHanded {} Tryd.checked os 4 .any (fun w args => (Rows.treeSumsSpec.pre enc Tryd.prog Tryd.f4 [] false w args ∧ laidMetH Tryd.prog laid5 w) ∧ sizedMet enc Tryd.prog Tryd.f4 (OpenSpec.ofChange Rows.treeSumsSpec) false w args)
      (Rows.treeSumsSpec.post enc Tryd.prog Tryd.f4 false true false false) := by
  refine returnsInHanded_of_change_and (C := Tryd.checked) (X := fun w _ => laidMetH Tryd.prog laid5 w) (fun _ _ _ hh h => h.of_heap hh) Tryd.own started (by kernel_rfl) Tryd.func4
    (ChangeSpec.witness_shaped (enc := enc) (C := Tryd.checked) (os := os) (X := fun w _ => laidMetH Tryd.prog laid5 w) false (World.laidAll Tryd.prog os laid5) #[.slice none 0 0, .slice none 0 0] 8 (World.laidAll_os _ _ _)
      (World.shaped_of_ZipB (by kernel_rfl) (by kernel_rfl)) (by kernel_rfl) (by kernel_rfl) (by kernel_rfl)
      (by rw [MakeChecks.laidMetH_plain _ _ _ (by kernel_rfl)]; exact laidMet_laidAll _ (by kernel_rfl) (by kernel_rfl))) ?_
  intro W base args ds gs before hval0 hW hy1 hsz0 hy2 hy3
  have hpow : Pow10 W := by
    first
      | (rw [MakeChecks.laidMetH_plain _ _ _ (by kernel_rfl)] at hy1; exact pow10_of_laid hy1)
      | (rw [MakeChecks.laidMetH_plain _ _ _ (by kernel_rfl)] at hy2; exact pow10_of_laid hy2)
      | (rw [MakeChecks.laidMetH_plain _ _ _ (by kernel_rfl)] at hy3; exact pow10_of_laid hy3)
  have hsz : (DataW.weightsEach Tryd.prog (Tryd.f4.params.toList ++ Rows.treeSumsSpec.plain.varTypes Tryd.prog) (ds ++ gs)).all (· ≤ reachBytes) = true := hsz0
  clear hsz0
  have hval : ∀ (j : Nat) t v, Tryd.f4.params[j]? = some t → args[j]? = some v → Value.okWide Tryd.prog W .any base t v := hval0
  have hW' := hW
  obtain ⟨p, q, hA0, hV, rfl, _, _⟩ := hW
  have hA : DataW.TrodAll enc Tryd.prog W 0 (fun _ => true) true Tryd.f4.params.toList args.toList ds p := hA0
  rw [Tryd.params4] at hA hval hsz
  obtain ⟨v0, v1, d0, d1, p0, p1, rfl, rfl, rfl, h0, h1⟩ := trodAll_two hA
  obtain ⟨rfl, rfl⟩ := trodVars_none hV
  simp only [List.append_nil] at hW'
  have hlt : ∀ x ∈ (p0 ++ p1), x.block < W.heap.size := fun x hx => hW'.lt x hx
  have h0' := h0
  obtain ⟨A0, c0, l0, rfl, hF0, hn0, hz0⟩ := open_files (j := 0) h0' hsz rfl rfl (okWide_slice Tryd.underlying22 (hval 0 22 v0 rfl rfl))
  have h1' := h1
  obtain ⟨A1, c1, l1, rfl, hF1, hn1, hz1⟩ := open_files (j := 1) h1' hsz rfl rfl (okWide_slice Tryd.underlying22 (hval 1 22 v1 rfl rfl))
  clear hA0 hval0
  refine (treeSums_any l0 A0 c0 l1 A1 c1 W hF0 hn0 hz0 hF1 hn1 hz1 hpow).mono fun e W' ⟨he, hb⟩ => ?_
  subst he
  exact ⟨_, rfl, post_of_below (pa := (p0 ++ p1)) (pv := []) hW' (fun _ _ _ => trodAll_mk1 (shut_bool4 true)) (fun sp hsp => trodAll_mk2 (reads_still Tryd.laidOut (by kernel_rfl) (of_decide_eq_true (by kernel_rfl)) h0 hb (fun x hx => hlt x (by simp [hx])) sp (fun x hx => hsp x (by simp [hx]))) (reads_still Tryd.laidOut (by kernel_rfl) (of_decide_eq_true (by kernel_rfl)) h1 hb (fun x hx => hlt x (by simp [hx])) sp (fun x hx => hsp x (by simp [hx])))) (fun _ _ => rfl) (by simp) hb
    (ok_one (by kernel_rfl) rfl (okWide_bool4 true))⟩
theorem treeSums_said : Rows.TreeSumsSaid :=
  OpenClaim.holds_of_wide 4 Tryd.f4 rfl rfl rfl rfl rfl rfl rfl ⟨rfl, rfl, rfl, rfl, rfl⟩ rfl rfl rfl rfl rfl (by kernel_rfl) Tryd.func4 (by kernel_rfl)
    (of_decide_eq_true (by kernel_rfl)) (by unfold Func.isWrapper; first | (rw [if_pos (by decide +kernel)]; kernel_rfl) | (rw [if_neg (by decide +kernel)]; exact ⟨rfl, rfl⟩))
    (fun os started H enc _ => treeSums_lifted os started H enc)
theorem treeSums_holds : Rows.TreeSumsCardSaid :=
  Claim7.holds_tied_plain_at .later [] [.data, .data, .data, .data, .pinned] true (true, "971c6068965595d6fea3515aaf21457a8f139eaa0a0724680141d4e83ff83b49") false
    treeSums_said (fun _ h => by cases h) (by kernel_rfl) (fun _ h => by cases h) treeSums_row_tie rfl ⟨rfl, rfl⟩ (by kernel_rfl) rfl
    (fun f fn hf hfn => by
      obtain rfl : f = 4 := Option.some.inj ((show Tryd.prog.funcNamed "bloomery/bloomerylaw05.TreeSums" = some 4 by kernel_rfl).symm.trans hf) |>.symm
      obtain rfl : fn = Tryd.f4 := (Option.some.inj (Tryd.func4.symm.trans hfn)).symm
      exact ⟨by kernel_rfl, fun j t ht => by
        rw [Tryd.params4] at ht
        have hm : t ∈ [22, 22] := by simpa using Array.mem_of_getElem? ht
        have hall : ([22, 22].all fun u => !Tryd.prog.wantsStandIn u) = true := by kernel_rfl
        exact (show Tryd.prog.wantsStandIn t = false by simpa using List.all_eq_true.1 hall t (by simpa using hm))⟩)
    (by kernel_rfl)
#print axioms treeSums_holds
end Go.Proofs.YtjpaajpjajoijaaDoor
