/- pack.Row. -/
import Derived.Test.YtjpaajpjajoijaaDoorRRow
import Derived.Test.YtjpaajpjajoijaaDoorBuild
import Derived.Lib.AppendIntMem
namespace Go.Proofs.YtjpaajpjajoijaaDoor
set_option linter.unusedVariables false
open Go.RowKit
theorem var_below {P : Program} {n : String} {k : IntKind} {zs : List Int} {w w' : World} {g : Nat} (hg : P.globalNamed n = some g) (h : Lib.TabIs P w n k zs) (hb : Below w.heap.size w w') : Lib.TabIs P w' n k zs := by
  unfold Lib.TabIs at *
  have key : w'.var? P n = w.var? P n := by
    unfold World.var? at h ⊢
    simp only [hg, Option.bind_some] at h ⊢
    rcases Nat.lt_or_ge g w.heap.size with hlt | hge
    · rw [hb.block g hlt]
    · simp [Array.getElem?_eq_none hge] at h
  rw [key]
  exact h
theorem builder_below {T e : TypeId} {B b : Nat} {bs : List Value} {w w' : World} (h : Lib.IsBuilder T e B b bs w) (hb : Below w.heap.size w w') : Lib.IsBuilder T e B b bs w' := by
  have key : ∀ p, Lib.BuilderAt T e B b p bs w → Lib.BuilderAt T e B b p bs w' := fun p ⟨h1, v, h2, h3, h4⟩ =>
    ⟨h1, v, (hb.block b (Array.getElem?_eq_some_iff.1 h2).1).trans h2, own_below h3 hb, h4⟩
  rcases h with h | h
  · exact .inl (key _ h)
  · exact .inr (key _ h)
theorem used_builder {T e : TypeId} {B b : Nat} {bs : List Value} {w : World} (h : Lib.BuilderAt T e B b (.pointer (some ⟨b, 0, none⟩)) bs w) : Lib.IsBuilder T e B b bs w := Or.inr h
/-- The table of the powers of ten. -/
def Pow10 (w : World) : Prop := Lib.TabIs Tryd.prog w "internal/strconv.uint64pow10" .u64 Lib.pow10Tab
theorem pow10_named : Tryd.prog.globalNamed "internal/strconv.uint64pow10" = some 3 := by kernel_rfl
theorem Pow10.below {w w' : World} (h : Pow10 w) (hb : Below w.heap.size w w') : Pow10 w' := var_below pow10_named h hb
theorem itoa_any (n : Nat) (w : World) (hn : n ≤ 1000000) (ht : Pow10 w) : Calls Tryd.prog 74 #[.int .i64 n] w fun e w' => e = .returned (.string (digT n)) ∧ Below w.heap.size w w' :=
  (Tryd.strconv_Itoa n (by omega) (by omega) w ht).mono fun e w' ⟨he, k, os, hw⟩ => by
    refine ⟨?_, by rw [hw]; exact Lib.below_grow _ w (Nat.le_refl _) k os⟩
    rw [he]
    unfold Lib.itoa digT
    rw [if_neg (by omega)]
    rfl
theorem rowStep_cells (b s : ByteArray) : Lib.byteCells (rowStep b s).data.toList = ((Lib.byteCells b.data.toList ++ Lib.strCells (digT s.size)) ++ [.int .u8 58]) ++ Lib.strCells s := by
  unfold rowStep
  rw [ByteArray.data_append, ByteArray.data_append, ByteArray.data_append, Array.toList_append, Array.toList_append, Array.toList_append, Lib.byteCells_append, Lib.byteCells_append, Lib.byteCells_append, Lib.strCells_eq, Lib.strCells_eq]
  simp only [List.append_assoc]
  rfl
theorem write_colon (B b : Nat) (bs : List Value) (w : World) (h : Lib.IsBuilder 83 5 B b bs w) (hlen : bs.length + 1 ≤ 140737488355328) (hBw : B ≤ w.heap.size) :
    Calls Tryd.prog 75 #[.pointer (some ⟨b, 0, none⟩), .int .u8 58] w fun e w' => e = .returned .nilIface ∧ Lib.BuilderAt 83 5 B b (.pointer (some ⟨b, 0, none⟩)) (bs ++ [.int .u8 58]) w' ∧ Below B w w' := by
  have h58 : (((58 : UInt8).toNat : Nat) : Int) = 58 := by decide
  have h5 := writeByte_any B b bs 58 w h hlen hBw
  rw [h58] at h5
  exact h5
set_option maxHeartbeats 2000000 in
set_option maxRecDepth 100000 in
theorem prow_any (l : List ByteArray) (A : Option Addr) (c : Nat) (w : World) (hT : Texts w w.heap.size A l) (hn : l.length ≤ 1000) (hs : ∀ s ∈ l, s.size ≤ 300) (hp : Pow10 w) :
    Calls Tryd.prog 55 #[.slice A l.length c] w fun e w' => e = .returned (.string (rowT l)) ∧ Below w.heap.size w w' := by
  have hrs := rowT_size l hs
  have hst := fun k h => rowT_succ l k h
  obtain ⟨W0, hW0⟩ : ∃ W0, W0 = w.alloc (.cells #[.pointer none, .slice none 0 0] 83) := ⟨_, rfl⟩
  have hbd : Lib.IsBuilder 83 5 w.heap.size w.heap.size [] W0 := by rw [hW0]; exact Lib.fresh_isBuilder 83 5 w
  have hBw : Below w.heap.size w W0 := by rw [hW0]; exact (Below.refl _ _).alloc (Nat.le_refl _) _
  obtain ⟨R, hR⟩ : ∃ R, R = rowT l := ⟨_, rfl⟩
  rw [← hR]
  have HT := Lib.hid hT
  have HS := Lib.hid hs
  have HRS := Lib.hid hrs
  have HST := Lib.hid hst
  have HR := Lib.hid hR
  have HP := Lib.hid hp
  have HW0 := Lib.hid hW0
  have HBD : Hid (Lib.IsBuilder 83 5 w.heap.size w.heap.size (Lib.byteCells (rowT (l.take 0)).data.toList) W0) := Lib.hid hbd
  clear hT hs hrs hst hR hp hW0 hbd
  go_enter Tryd.func55, Tryd.ntmps55
  go_wp2_with fail
  rw [← HW0.out]
  go_loopw [5, 8] (fun _ s8 wr => ∃ (k : Nat) (b : ByteArray), k ≤ l.length ∧ s8 = .int .i64 k ∧ Hid (b = rowT (l.take k)) ∧ b.size ≤ 602000 ∧ Hid (Lib.IsBuilder 83 5 w.heap.size w.heap.size (Lib.byteCells b.data.toList) wr) ∧ Below w.heap.size w wr) (fun _ s8 _ => l.length - (intOf s8).toNat)
  case atStart => exact ⟨0, _, by omega, rfl, Lib.hid rfl, (by rw [List.take_zero]; decide), HBD, hBw⟩
  case round =>
    obtain ⟨k, b, hk, rfl, hb, hbs, hbd, hB⟩ := hrel
    have hsz := hB.size
    by_cases hlt : k < l.length
    · obtain ⟨a, rfl, hab, hc⟩ := (HT.out.below hB (Nat.le_refl _)) (by omega)
      have c1 := hc k l[k] (List.getElem?_eq_getElem hlt)
      have hst := HST.out k hlt
      have hss := HS.out l[k] (List.getElem_mem hlt)
      have hr1 := HRS.out (k + 1) hlt
      obtain ⟨s, hs⟩ : ∃ s, s = l[k] := ⟨_, rfl⟩
      rw [← hs] at c1 hst hss
      rw [← hb.out] at hst
      rw [hst] at hr1
      have hd := itoa_any s.size wr (by omega) (HP.out.below hB)
      have hds := digT_size s.size
      have hun := rowStep_cells b s
      obtain ⟨D, hD⟩ : ∃ D, D = digT s.size := ⟨_, rfl⟩
      rw [← hD] at hd hds hun
      have hl0 : (Lib.byteCells b.data.toList).length = b.size := by rw [Lib.byteCells_length]; rfl
      obtain ⟨cs, hcs⟩ : ∃ cs, cs = Lib.byteCells b.data.toList := ⟨_, rfl⟩
      rw [← hcs] at hl0 hun hbd
      have hlD : (Lib.strCells D).length = D.size := Lib.strCells_length D
      have HD := Lib.hid hd
      have HSTP := Lib.hid hst
      have HUN := Lib.hid hun
      have HG := Lib.hid hr1
      have HL0 := Lib.hid hl0
      have HLD := Lib.hid hlD
      have i1 : (0 : Int) ≤ (k : Int) := by omega
      have i2 : (k : Int) < (l.length : Int) := by omega
      clear hc hst hs hd hD hun hr1 hcs hl0 hlD
      go_wp2_with (first
        | (go_at_call 74; (with_reducible refine HD.out.mono ?_); rintro e w1 ⟨rfl, b1⟩; have d1 := builder_below hbd.out b1; have b1' := hB.trans (b1.mono hsz); have z1 := b1'.size)
        | (go_at_call 73; (with_reducible refine (writeString_any w.heap.size w.heap.size cs D w1 d1 (by rw [HL0.out]; omega) z1).mono ?_); rintro e w2 ⟨rfl, d2, b2⟩; have b2' := b1'.trans b2; have z2 := b2'.size)
        | (go_at_call 75; (with_reducible refine (write_colon w.heap.size w.heap.size (cs ++ Lib.strCells D) w2 (used_builder d2) (by rw [List.length_append, HL0.out, HLD.out]; omega) z2).mono ?_); rintro e w3 ⟨rfl, d3, b3⟩; have b3' := b2'.trans b3; have z3 := b3'.size)
        | (go_at_call 73; (with_reducible refine (writeString_any w.heap.size w.heap.size ((cs ++ Lib.strCells D) ++ [.int .u8 58]) s w3 (used_builder d3) (by rw [List.length_append, List.length_append, HL0.out, HLD.out]; simp; omega) z3).mono ?_); rintro e w4 ⟨rfl, d4, b4⟩; have b4' := b3'.trans b4))
      go_roundw
      case rel => exact ⟨k + 1, rowStep b s, by omega, by go_num, Lib.hid HSTP.out.symm, (by have := HG.out; omega), Lib.hid (by rw [HUN.out]; exact used_builder d4), b4'⟩
      case measure => simp [intOf]; omega
    · have hfin : l.take k = l := List.take_of_length_le (by omega)
      have hbR : b = R := by rw [hb.out, hfin, HR.out]
      subst hbR
      have hstr := Tryd.Builder_String_any w.heap.size w.heap.size b.data.toList wr hbd.out hsz
      have HSTR := Lib.hid hstr
      clear hfin hstr
      go_wp2_with (go_at_call 76; (with_reducible refine HSTR.out.mono ?_); rintro e w5 ⟨rfl, b5⟩)
      go_ret
      exact ⟨rfl, hB.trans b5⟩
end Go.Proofs.YtjpaajpjajoijaaDoor
