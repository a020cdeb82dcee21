/- ShaTexts: for every digest and every text the call returns true, and both read behind the call as they read before. No condition. -/
import Derived.Test.YtjpaajpjajoijaaPost
import Derived.Test.YtjpaajpjajoijaaR7
import Derived.OpenShut
namespace Go.Proofs.Ytjpaajpjajoijaa
open Go.ChangeShapes Go.WideShapes Go.ChangeAt Go.RowKit
open Go.ChangeMaps (open_string)
theorem byte_in {n : Int} (h : (Lit.int .u8 n).wf = true) : ((UInt8.ofNat n.toNat).toNat : Int) = n := by
  have h1 : 0 ≤ n ∧ n ≤ 255 := by
    simp [Lit.wf, IntKind.min, IntKind.max, IntKind.signed, IntKind.bits] at h
    exact h
  rw [UInt8.toNat_ofNat_of_lt' (show n.toNat < UInt8.size from by simp [UInt8.size]; omega)]
  omega
/-- An array of 32 bytes that came in. -/
theorem open_digest {H : Type} {enc : TypeId × Value → H} {W : World} {r : Reach} {b0 : Nat} {v : Value} {x : DataW H} {ps : List MemPlace} (hval : Value.okWide Try.prog W r b0 27 v) (h : DataW.Trod enc Try.prog W 0 (fun _ => true) true 27 v x ps) :
    ∃ d : List UInt8, v = .agg (Dg d) ∧ d.length = 32 := by
  simp only [Value.okWide, under27] at hval
  obtain ⟨cs, rfl, hsz, _⟩ := hval
  have hc27 : Try.prog.cellsOf 27 = 32 := by kernel_rfl
  have hs32 : cs.size = 32 := by rw [hsz, hc27]
  obtain ⟨fuel, hf⟩ := h
  obtain ⟨xs, m, _, _, _, hxl, hx⟩ := DataW.trod_array under27 hf
  have hcell : ∀ i (hi : i < cs.size), ∃ a : Int, cs[i] = .int .u8 a ∧ (Lit.int .u8 a).wf = true := fun i hi => by
    have h1 := hx i (by omega)
    rw [List.getElem?_eq_getElem (by omega), cells5] at h1
    obtain ⟨a, ea, _, wa⟩ := DataW.trod_int agg5 h1
    refine ⟨a, ?_, wa⟩
    have h2 : (cs.toList.drop (i * 1)).take 1 = [cs[i]] := by
      rw [Nat.mul_one, List.drop_eq_getElem_cons (by simpa using hi)]
      simp
    have h3 : (Value.agg cs).cells.toList = cs.toList := rfl
    rw [h3, h2] at ea
    simpa using ea
  refine ⟨cs.toList.map fun v => match v with
    | .int _ n => UInt8.ofNat n.toNat
    | _ => 0, ?_, by simp [hs32]⟩
  congr 1
  apply Array.ext
  · simp [Dg]
  · intro i h1 h2
    obtain ⟨a, ea, wa⟩ := hcell i h1
    simp only [Dg, List.getElem_toArray, List.getElem_map, Array.getElem_toList, ea, Bv]
    rw [byte_in wa]
set_option maxRecDepth 100000 in
theorem shaTexts_lifted (os : Os) (started : os.Started) (H : Type) (enc : TypeId × Value → H) :
    ReturnsInHanded {} Try.checked os 7 .any (Rows.shaTextsSpec.pre6 enc Try.prog Try.f7 Rows.shaTextsRow.domain false) (Rows.shaTextsSpec.post enc Try.prog Try.f7 false true false false) := by
  refine returnsInHanded_of_change (C := Try.checked) Try.own started (by kernel_rfl) Try.func7
    (ChangeSpec.witness6 (enc := enc) (C := Try.checked) false ⟨#[], #[.agg (zb 32), .string ByteArray.empty], []⟩ 8 (by kernel_rfl) (by kernel_rfl) (by kernel_rfl) (by kernel_rfl)) ?_
  intro W base args ds gs before hval0 hW _ _
  have hval : ∀ (j : Nat) t v, Try.f7.params[j]? = some t → args[j]? = some v → Value.okWide Try.prog W .any base t v := hval0
  have hW' := hW
  obtain ⟨p, q, hA0, hV, rfl, _, _⟩ := hW
  have hA : DataW.TrodAll enc Try.prog W 0 (fun _ => true) true Try.f7.params.toList args.toList ds p := hA0
  rw [Try.params7] at hA hval
  obtain ⟨v0, v1, d0, d1, p0, p1, rfl, rfl, rfl, h0, h1⟩ := trodAll_two hA
  obtain ⟨rfl, rfl⟩ := trodVars_none hV
  have h1k := h1
  obtain ⟨d, rfl, hd⟩ := open_digest (hval 0 27 v0 rfl rfl) h0
  obtain ⟨s, rfl, rfl, rfl, ws⟩ := open_string Try.underlying9 (hval 1 9 v1 rfl rfl) h1
  clear hA0 hval0
  simp only [List.append_nil] at hW'
  have hlt : ∀ x ∈ p0, x.block < W.heap.size := fun x hx => by simpa using hW'.lt x hx
  refine (shaTexts_any d hd s W ws).mono fun e W' ⟨he, hb⟩ => ?_
  subst he
  exact ⟨_, rfl, post_of_below (pa := p0 ++ []) (pv := []) hW' (fun _ _ _ => trodAll_mk1 (shut_bool true)) (fun sp hsp => trodAll_mk2 (reads_still Try.laidOut (by kernel_rfl) (of_decide_eq_true (by kernel_rfl)) h0 hb hlt sp (by simpa using hsp)) (reads_still Try.laidOut (by kernel_rfl) (of_decide_eq_true (by kernel_rfl)) h1k hb (by simp) sp (by simp))) (fun _ _ => rfl) (by simp) hb
    (ok_one (by kernel_rfl) rfl (okWide_bool_mk true))⟩
theorem shaTexts_holds : Rows.ShaTextsSaid :=
  OpenClaim.holds_of_wide 7 Try.f7 rfl rfl rfl rfl rfl rfl rfl ⟨rfl, rfl, rfl, rfl, rfl⟩ rfl rfl rfl rfl rfl (by kernel_rfl) Try.func7 (by kernel_rfl)
    (of_decide_eq_true (by kernel_rfl)) (by unfold Func.isWrapper; rw [if_neg (by decide +kernel)]; exact ⟨rfl, rfl⟩)
    (fun os started H enc _ => shaTexts_lifted os started H enc)
#print axioms shaTexts_holds
end Go.Proofs.Ytjpaajpjajoijaa
