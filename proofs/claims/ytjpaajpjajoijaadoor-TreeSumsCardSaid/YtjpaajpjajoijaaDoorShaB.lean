/- sha.state.take: the eight words behind a block of 64 bytes are the document's; what lay elsewhere stays. (What the tactic's six orders of region 0 come to was printed by a small program.) -/
import Derived.Test.YtjpaajpjajoijaaDoorShaA
import Derived.OrdersHeld
import Derived.Deep.DeepCutAuto
import Derived.Deep.RegionHeld
namespace Go.Proofs.YtjpaajpjajoijaaDoor
open Go.RowKit Sha
set_option linter.unusedSimpArgs false
set_option linter.unusedVariables false
def stA (S : St) : List Value := [U S.a, U S.b, U S.c, U S.d, U S.e, U S.f, U S.g, U S.h]
theorem quiet_add_same {P : Program} {f : FuncId} {args : Array Value} {w : World} {a n : Nat} {v : Value}
    (h : Calls P f args (w.drewN (a + n)) fun e w' => e = .returned v ∧ w' = w.drewN (a + n)) :
    Calls P f args (w.drewN (a + n)) fun e w'' => e = .returned v ∧ ∃ m, w'' = w.drewN (a + m) :=
  h.mono fun _ _ ⟨he, hm⟩ => ⟨he, n, hm⟩
section
variable {P : Program}
theorem wpList_indexR {ops : Array Oper} {rest : List Oper} {o : Oper} {a : Act} {w : World} {Q : Exit → Act → World → Prop} (hgd : o.guard = none) (t : TypeId) (x i : Operand) (ho : o.op = .index t x i)
    (cs : Array Value) (kd : IntKind) (k : Nat) (hx : a.eval x = .agg cs) (hi : a.eval i = .int kd (k : Int)) (n : Nat) (e : TypeId) (hu : P.underlying t = some (.array n e)) (hk : k < n)
    (ha : (isAgg e).run P w = .ok false w) (hs : (sizeOf e).run P w = .ok 1 w) (v : Value) (hv : cs[k]? = some v)
    (h : wpList P ops Q rest (a.put o.dst v) w) : wpList P ops Q (o :: rest) a w :=
  wpList_plain hgd fun K hK => by
    unfold Oper.wp execOp
    have hk' : (0 : Int) ≤ (k : Int) ∧ (k : Int) < (n : Int) := ⟨by omega, by omega⟩
    simp only [ho, Instr.index, hx, hi, asIntOf, Sem.run_bind, Sem.run_pure, Result.andThen_ok, run_underlying hu, hk', and_self, if_true, Int.toNat_natCast, hs, Nat.mul_one, part, ha, Bool.false_eq_true, if_false, hv]
    exact hK _ _ h
end
theorem isAgg91 (w : World) : (isAgg 91).run Tryd.prog w = .ok false w := by kernel_rfl
theorem sizeOf91 (w : World) : (sizeOf 91).run Tryd.prog w = .ok 1 w := by kernel_rfl
theorem turned_same (x : Nat) (n : Int) (w : World) (hx : x < 4294967296) (h1 : 1 ≤ n) (h2 : n ≤ 31) :
    Calls Tryd.prog 104 #[.int .u32 (x : Int), .int .i64 n] w fun e w' => e = .returned (.int .u32 (rotr x n.toNat : Int)) ∧ w' = w :=
  (turned_any x n w hx h1 h2).mono fun _ _ ⟨h, h'⟩ => ⟨h, h'.symm⟩
theorem sched_length (b : List UInt8) : (sched b).length = 64 := by simp [sched, sch_length, words_length]
theorem one_stA (S : St) : (stA S).toArray.all (·.oneCell') = true := by simp [stA, U, Value.oneCell']
theorem zero99 (w : World) : (zeroValue 99).run Tryd.prog w = .ok (.agg (zs 8)) w := by kernel_rfl
theorem xor_max (e : Nat) (he : e < 4294967296) : (4294967295 : Nat) ^^^ e = 4294967295 - e := by
  have h : (BitVec.allOnes 32 ^^^ BitVec.ofNat 32 e) = ~~~ (BitVec.ofNat 32 e) := by
    rw [BitVec.xor_comm, BitVec.xor_allOnes]
  have h2 := congrArg BitVec.toNat h
  rw [BitVec.toNat_xor, BitVec.toNat_not, BitVec.toNat_ofNat, BitVec.toNat_allOnes, Nat.mod_eq_of_lt he] at h2
  exact h2
theorem not_spell (e : Nat) (he : e < 4294967296) : bits .xor .u32 IntKind.u32.max (e : Int) = ((4294967295 - e : Nat) : Int) := by
  rw [show IntKind.u32.max = ((4294967295 : Nat) : Int) from by simp [IntKind.max, IntKind.bits, IntKind.signed], u32_xor_nat _ _ (by omega) he, xor_max e he]
theorem xlt {a b : Nat} (ha : a < 4294967296) (hb : b < 4294967296) : a ^^^ b < 4294967296 := Nat.xor_lt_two_pow (n := 32) ha hb
theorem alt {a b : Nat} (hb : b < 4294967296) : a &&& b < 4294967296 := Nat.and_lt_two_pow (n := 32) _ hb
theorem sig1_lt (e : Nat) (he : e < 4294967296) : sig1 e < 4294967296 := xlt (xlt (rotr_lt _ _ he) (rotr_lt _ _ he)) (rotr_lt _ _ he)
theorem sig0_lt (e : Nat) (he : e < 4294967296) : sig0 e < 4294967296 := xlt (xlt (rotr_lt _ _ he) (rotr_lt _ _ he)) (rotr_lt _ _ he)
theorem sig1_spell (e : Nat) (he : e < 4294967296) : bits .xor .u32 (bits .xor .u32 (rotr e 6 : Int) (rotr e 11 : Int)) (rotr e 25 : Int) = (sig1 e : Int) := by
  rw [u32_xor_nat _ _ (rotr_lt _ _ he) (rotr_lt _ _ he), u32_xor_nat _ _ (xlt (rotr_lt _ _ he) (rotr_lt _ _ he)) (rotr_lt _ _ he)]; rfl
theorem sig0_spell (e : Nat) (he : e < 4294967296) : bits .xor .u32 (bits .xor .u32 (rotr e 2 : Int) (rotr e 13 : Int)) (rotr e 22 : Int) = (sig0 e : Int) := by
  rw [u32_xor_nat _ _ (rotr_lt _ _ he) (rotr_lt _ _ he), u32_xor_nat _ _ (xlt (rotr_lt _ _ he) (rotr_lt _ _ he)) (rotr_lt _ _ he)]; rfl
theorem ch_spell (e f g : Nat) (he : e < 4294967296) (hf : f < 4294967296) (hg : g < 4294967296) :
    bits .xor .u32 (bits .and .u32 (e : Int) (f : Int)) (bits .and .u32 (bits .xor .u32 IntKind.u32.max (e : Int)) (g : Int)) = (ch e f g : Int) := by
  rw [not_spell e he, u32_and_nat _ _ he hf, u32_and_nat _ _ (by omega) hg, u32_xor_nat _ _ (alt hf) (alt hg)]; rfl
theorem maj_spell (a b c : Nat) (ha : a < 4294967296) (hb : b < 4294967296) (hc : c < 4294967296) :
    bits .xor .u32 (bits .xor .u32 (bits .and .u32 (a : Int) (b : Int)) (bits .and .u32 (a : Int) (c : Int))) (bits .and .u32 (b : Int) (c : Int)) = (maj a b c : Int) := by
  rw [u32_and_nat _ _ ha hb, u32_and_nat _ _ ha hc, u32_and_nat _ _ hb hc, u32_xor_nat _ _ (alt hb) (alt hc), u32_xor_nat _ _ (xlt (alt hb) (alt hc)) (alt hc)]; rfl
theorem t1_spell (T : St) (k x : Nat) : ((T.h : Int) + (sig1 T.e : Int) + (ch T.e T.f T.g : Int) + (k : Int) + (x : Int)) % 4294967296 = (t1 T k x : Int) := by
  simp [t1, add]
theorem t2_spell (T : St) : ((sig0 T.a : Int) + (maj T.a T.b T.c : Int)) % 4294967296 = (t2 T : Int) := by
  simp [t2, add]
structure St.ok (S : St) : Prop where
  a : S.a < 4294967296
  b : S.b < 4294967296
  c : S.c < 4294967296
  d : S.d < 4294967296
  e : S.e < 4294967296
  f : S.f < 4294967296
  g : S.g < 4294967296
  h : S.h < 4294967296
theorem St.ok.turn {S : St} (h : St.ok S) (k x : Nat) : St.ok (Sha.turn S k x) := ⟨add_lt _ _, h.a, h.b, h.c, add_lt _ _, h.e, h.f, h.g⟩
theorem St.ok.turns {S : St} (h : St.ok S) (l : List Nat) (n : Nat) : St.ok (Sha.turns l S n) := by
  induction n with
  | zero => exact h
  | succ n ih => exact ih.turn _ _
theorem ok_plus (S T : St) : St.ok (Sha.plus S T) := ⟨add_lt _ _, add_lt _ _, add_lt _ _, add_lt _ _, add_lt _ _, add_lt _ _, add_lt _ _, add_lt _ _⟩
theorem ok_iv : St.ok Sha.iv := ⟨by decide, by decide, by decide, by decide, by decide, by decide, by decide, by decide⟩
section
variable {P : Program}
theorem wp_allocR {o : Oper} {a : Act} {w : World} {K : Act → World → Prop} {Q : Exit → Act → World → Prop} (t : TypeId) (ho : o.op = .alloc t)
    (cs : Array Value) (hz : (zeroValue t).run P w = .ok (.agg cs) w)
    (h : K (a.put o.dst (.pointer (some ⟨w.heap.size, 0, none⟩))) (w.alloc (.cells cs t))) : o.wp P a w K Q := by
  unfold Oper.wp execOp
  simp only [ho, Instr.alloc, Sem.run_bind, hz, Result.andThen_ok, newVar, Value.cells, Sem.run_pure]
  exact h
theorem wanted_none {ops : Array Oper} {o : Oper} {a : Act} (hg : o.guard = none) : Region.wanted o (yielded ops a.tmps) = true := by simp [Region.wanted, hg]
end
theorem wp_const_ {o : Oper} {a : Act} {w : World} {K : Act → World → Prop} {Q : Exit → Act → World → Prop} (ho : o.op = .call { callee := .value (.func 102), args := #[], argTypes := #[] })
    (h : K (a.put o.dst (.agg (Us ks))) (w.alloc (.cells (Us ks) 114))) : o.wp Tryd.prog a w K Q := by
  unfold Oper.wp
  have e : (execOp a.eval o).run Tryd.prog w = .ok (.enter 102 #[]) w := by
    unfold execOp
    simp only [ho, resolve, Act.eval]
    go_simp
  rw [e]
  refine (const_any _).mono ?_
  rintro e w' ⟨rfl, rfl⟩
  exact h
theorem stA_size (S T : St) : (stA S).toArray.size = (stA T).toArray.size := rfl
theorem info99 : (Tryd.prog.info? 99).map (·.size) = some 8 := by kernel_rfl
theorem info99' (S : St) : (Tryd.prog.info? 99).map (·.size) = some (stA S).toArray.size := info99
/-- The eight words while they are summed up, i of them being done. -/
def upd (l m : List Nat) : Nat → List Nat
  | 0 => l
  | i + 1 => (upd l m i).set i (add ((upd l m i).getD i 0) (m.getD i 0))
theorem upd_length (l m : List Nat) (i : Nat) : (upd l m i).length = l.length := by
  induction i with
  | zero => rfl
  | succ i ih => simp [upd, ih]
theorem upd_all (S T : St) : upd S.toList T.toList 8 = (plus S T).toList := rfl
theorem stA_toList (S : St) : stA S = S.toList.map U := rfl
theorem get_row (l : List Nat) (rest : List Value) (i : Nat) (h : i < l.length) : ((l.map U ++ rest).toArray)[i]? = some (.int .u32 ((l.getD i 0 : Nat) : Int)) := by
  simp [U, List.getD, List.getElem?_append_left, h]
theorem set_row (l : List Nat) (rest : List Value) (i x : Nat) (h : i < l.length) : ((l.map U ++ rest).toArray).setIfInBounds i (.int .u32 (x : Int)) = ((l.set i x).map U ++ rest).toArray := by
  simp [U, List.map_set, List.set_append_left, h]
theorem only_drewN {a w : World} {row : Option Nat} (h : a.grownBy w row) (n : Nat) : a.grownBy (w.drewN n) row := ⟨h.os, h.tape, h.output, h.size, h.block⟩
theorem only_drew {a w : World} {row : Option Nat} (h : a.grownBy w row) : a.grownBy w.drew row := ⟨h.os, h.tape, h.output, h.size, h.block⟩
theorem only_setCell {a w : World} {g : Nat} (h : a.grownBy w (some g)) {p : Addr} (hp : p.block = g ∨ a.heap.size ≤ p.block) (u : Value) : a.grownBy (w.setCell p u) (some g) :=
  ⟨h.os, h.tape, h.output, by simpa [World.setCell] using h.size, fun i hi hne => (Below.heap_setCell w p u i (by
    rintro rfl
    rcases hp with hp | hp
    · exact hne (by rw [hp])
    · omega)).trans (h.block i hi hne)⟩
theorem only_of_below {a w : World} (h : Below a.heap.size a w) (row : Option Nat) : a.grownBy w row := ⟨h.os, h.tape, h.output, h.size, fun i hi _ => h.block i hi⟩
set_option maxHeartbeats 1000000 in
set_option maxRecDepth 100000 in
theorem take_any (S : St) (b : List UInt8) (hb : b.length = 64) (bk off c g : Nat) (t : TypeId) (rest : List Value) (w : World) (hB : BytesAt w bk off b) (hne : bk ≠ g)
    (hok : St.ok S) (hS : Blk w g t (stA S ++ rest).toArray) :
    Calls Tryd.prog 89 #[.pointer (some ⟨g, 0, none⟩), .slice (some ⟨bk, off, none⟩) 64 c] w fun e w' => e = .returned (.tuple #[]) ∧ Blk w' g t (stA (block S b) ++ rest).toArray ∧ w.grownBy w' (some g) := by
  have c0 := hS.cell 0
  have c1 := hS.cell 1
  have c2 := hS.cell 2
  have c3 := hS.cell 3
  have c4 := hS.cell 4
  have c5 := hS.cell 5
  have c6 := hS.cell 6
  have c7 := hS.cell 7
  simp [stA, U] at c0 c1 c2 c3 c4 c5 c6 c7
  have hg := hS.lt
  go_enter Tryd.func89, Tryd.ntmps89
  go_upto_region 0 with (fail)
  go_cut [4, 5] (fun v4 v5 wx => ∃ V K : Nat, v4 = .pointer (some ⟨V, 0, none⟩) ∧ v5 = .pointer (some ⟨K, 0, none⟩) ∧ w.heap.size ≤ V ∧ w.heap.size ≤ K ∧ Blk wx V 99 (stA S).toArray ∧ Blk wx K 114 (Us ks) ∧ Below w.heap.size w wx)
  case first =>
    refine wp_region_held_drew (S := fun w' => Below w.heap.size w w') (by kernel_rfl) ((Below.refl _ _).drew) (fun hS0 => ?_)
    refine wpAnyH_take (i := 0) (v := .pointer (some ⟨g, 0, none⟩)) rfl (by kernel_rfl) (by kernel_rfl) (by kernel_rfl) (fun _ _ _ h => h) (Or.inl ⟨by rfl, fun w' _ => by go_simp⟩) hS0 ?_
    refine wpAnyH_take (i := 1) (v := .pointer (some ⟨g, 0, none⟩)) rfl (by kernel_rfl) (by kernel_rfl) (by kernel_rfl) (fun _ _ _ h => h) (Or.inl ⟨by rfl, fun w' _ => by go_simp⟩) hS0 ?_
    refine wpAnyH_take (i := 2) (v := .agg (stA S).toArray) rfl (by kernel_rfl) (by kernel_rfl) (by kernel_rfl) (fun _ _ _ h => h) (Or.inl ⟨by rfl, fun w' h => by
      have d0 := (h.cell (p := ⟨g, 0, none⟩) hg).trans c0
      have d1 := (h.cell (p := ⟨g, 1, none⟩) hg).trans c1
      have d2 := (h.cell (p := ⟨g, 2, none⟩) hg).trans c2
      have d3 := (h.cell (p := ⟨g, 3, none⟩) hg).trans c3
      have d4 := (h.cell (p := ⟨g, 4, none⟩) hg).trans c4
      have d5 := (h.cell (p := ⟨g, 5, none⟩) hg).trans c5
      have d6 := (h.cell (p := ⟨g, 6, none⟩) hg).trans c6
      have d7 := (h.cell (p := ⟨g, 7, none⟩) hg).trans c7
      clear h c0 c1 c2 c3 c4 c5 c6 c7
      go_simp
      rfl⟩) hS0 ?_
    simp only [Act.put, List.setIfInBounds_toArray, List.set_cons_zero, List.set_cons_succ, List.getElem_toArray, List.getElem_cons_succ, List.getElem_cons_zero]
    clear c0 c1 c2 c3 c4 c5 c6 c7
    refine wpAnyH_ready (rs := [3, 4, 5]) (by kernel_rfl) (by simp) (AllReadyH.cons (i := 3) rfl (fun K hK => ?_) (AllReadyH.cons (i := 4) rfl (fun K hK => ?_) (AllReadyH.cons (i := 5) rfl (fun K hK => ?_) AllReadyH.nil)))
    · rw [if_pos (wanted_none rfl)]
      refine wp_const_ rfl ?_
      have hS := hS0.alloc hS0.size (.cells (Us ks) 114)
      refine hK.out _ _ hS (fun hS1 => ?_)
      clear hK K
      refine wpAnyH_ready (rs := [4, 5]) (by kernel_rfl) (by simp) (AllReadyH.cons (i := 4) rfl (fun K hK => ?_) (AllReadyH.cons (i := 5) rfl (fun K hK => ?_) AllReadyH.nil))
      · rw [if_pos (wanted_none rfl)]
        refine wp_allocR 99 rfl (zs 8) (zero99 _) ?_
        have hS := hS1.alloc hS1.size (.cells (zs 8) 99)
        have hVn := hS1.size
        have hV := Blk.new ((w.drew).alloc (.cells (Us ks) 114)) 99 (zs 8)
        refine hK.out _ _ hS (fun hS2 => ?_)
        clear hK K
        refine wpAnyH_ready (rs := [5]) (by kernel_rfl) (by simp) (AllReadyH.cons (i := 5) rfl (fun K hK => ?_) AllReadyH.nil)
        · rw [if_pos (wanted_none rfl)]
          refine wp_allocR 114 rfl (zs 64) (zero114 _) ?_
          have hS := hS2.alloc hS2.size (.cells (zs 64) 114)
          replace hV := hV.alloc (.cells (zs 64) 114)
          have hWn := hS2.size
          have hW := Blk.new (((w.drew).alloc (.cells (Us ks) 114)).alloc (.cells (zs 8) 99)) 114 (zs 64)
          refine hK.out _ _ hS (fun hS3 => ?_)
          clear hK K
          simp only [Act.put, List.setIfInBounds_toArray, List.set_cons_zero, List.set_cons_succ, List.getElem_toArray, List.getElem_cons_succ, List.getElem_cons_zero]
          refine wpAnyH_ready (rs := [6]) (by kernel_rfl) (by simp) (AllReadyH.cons (i := 6) rfl (fun K hK => ?_) AllReadyH.nil)
          rw [if_pos (wanted_none rfl)]
          refine wp_store_row 99 (.tmp 4) (.tmp 16) rfl _ (stA S).toArray rfl rfl 99 (zs 8) hV.heap rfl rfl (one_stA S) ?_
          refine hK.out _ _ (below_setRow hS3 hVn _) (fun hS6 => ?_)
          clear hK K
          have hV6 := blk_setRow hV (stA S).toArray
          have hW6 := hW.setRow_far (hV.ne_ hW (by decide)) (stA S).toArray
          refine wpAnyH_ready (rs := [7]) (by kernel_rfl) (by simp) (AllReadyH.cons (i := 7) rfl (fun K hK => ?_) AllReadyH.nil)
          rw [if_pos (wanted_none rfl)]
          refine wp_store_row 114 (.tmp 5) (.tmp 17) rfl _ (Us ks) rfl rfl 114 (zs 64) hW6.heap info114 zs_ks (one_Us _) ?_
          refine hK.out _ _ (below_setRow hS6 hWn _) (fun hS7 => ?_)
          clear hK K
          refine wpAnyH_done (by kernel_rfl) ?_ _
          simp only [Act.put, List.setIfInBounds_toArray, List.set_cons_zero, List.set_cons_succ, List.getElem_toArray, List.getElem_cons_succ, List.getElem_cons_zero]
          go_wp2_with fail
          go_meet
          exact ⟨_, _, rfl, rfl, hVn, hWn, hV6.setRow_far (hV.ne_ hW (by decide)).symm _, blk_setRow hW6 _, hS7⟩
      · rw [if_pos (wanted_none rfl)]
        refine wp_allocR 114 rfl (zs 64) (zero114 _) ?_
        have hS := hS1.alloc hS1.size (.cells (zs 64) 114)
        have hWn := hS1.size
        have hW := Blk.new ((w.drew).alloc (.cells (Us ks) 114)) 114 (zs 64)
        refine hK.out _ _ hS (fun hS2 => ?_)
        clear hK K
        refine wpAnyH_ready (rs := [4]) (by kernel_rfl) (by simp) (AllReadyH.cons (i := 4) rfl (fun K hK => ?_) AllReadyH.nil)
        · rw [if_pos (wanted_none rfl)]
          refine wp_allocR 99 rfl (zs 8) (zero99 _) ?_
          have hS := hS2.alloc hS2.size (.cells (zs 8) 99)
          replace hW := hW.alloc (.cells (zs 8) 99)
          have hVn := hS2.size
          have hV := Blk.new (((w.drew).alloc (.cells (Us ks) 114)).alloc (.cells (zs 64) 114)) 99 (zs 8)
          refine hK.out _ _ hS (fun hS3 => ?_)
          clear hK K
          simp only [Act.put, List.setIfInBounds_toArray, List.set_cons_zero, List.set_cons_succ, List.getElem_toArray, List.getElem_cons_succ, List.getElem_cons_zero]
          refine wpAnyH_ready (rs := [6]) (by kernel_rfl) (by simp) (AllReadyH.cons (i := 6) rfl (fun K hK => ?_) AllReadyH.nil)
          rw [if_pos (wanted_none rfl)]
          refine wp_store_row 99 (.tmp 4) (.tmp 16) rfl _ (stA S).toArray rfl rfl 99 (zs 8) hV.heap rfl rfl (one_stA S) ?_
          refine hK.out _ _ (below_setRow hS3 hVn _) (fun hS6 => ?_)
          clear hK K
          have hV6 := blk_setRow hV (stA S).toArray
          have hW6 := hW.setRow_far (hV.ne_ hW (by decide)) (stA S).toArray
          refine wpAnyH_ready (rs := [7]) (by kernel_rfl) (by simp) (AllReadyH.cons (i := 7) rfl (fun K hK => ?_) AllReadyH.nil)
          rw [if_pos (wanted_none rfl)]
          refine wp_store_row 114 (.tmp 5) (.tmp 17) rfl _ (Us ks) rfl rfl 114 (zs 64) hW6.heap info114 zs_ks (one_Us _) ?_
          refine hK.out _ _ (below_setRow hS6 hWn _) (fun hS7 => ?_)
          clear hK K
          refine wpAnyH_done (by kernel_rfl) ?_ _
          simp only [Act.put, List.setIfInBounds_toArray, List.set_cons_zero, List.set_cons_succ, List.getElem_toArray, List.getElem_cons_succ, List.getElem_cons_zero]
          go_wp2_with fail
          go_meet
          exact ⟨_, _, rfl, rfl, hVn, hWn, hV6.setRow_far (hV.ne_ hW (by decide)).symm _, blk_setRow hW6 _, hS7⟩
    · rw [if_pos (wanted_none rfl)]
      refine wp_allocR 99 rfl (zs 8) (zero99 _) ?_
      have hS := hS0.alloc hS0.size (.cells (zs 8) 99)
      have hVn := hS0.size
      have hV := Blk.new (w.drew) 99 (zs 8)
      refine hK.out _ _ hS (fun hS1 => ?_)
      clear hK K
      refine wpAnyH_ready (rs := [3, 5]) (by kernel_rfl) (by simp) (AllReadyH.cons (i := 3) rfl (fun K hK => ?_) (AllReadyH.cons (i := 5) rfl (fun K hK => ?_) AllReadyH.nil))
      · rw [if_pos (wanted_none rfl)]
        refine wp_const_ rfl ?_
        have hS := hS1.alloc hS1.size (.cells (Us ks) 114)
        replace hV := hV.alloc (.cells (Us ks) 114)
        refine hK.out _ _ hS (fun hS2 => ?_)
        clear hK K
        refine wpAnyH_ready (rs := [5]) (by kernel_rfl) (by simp) (AllReadyH.cons (i := 5) rfl (fun K hK => ?_) AllReadyH.nil)
        · rw [if_pos (wanted_none rfl)]
          refine wp_allocR 114 rfl (zs 64) (zero114 _) ?_
          have hS := hS2.alloc hS2.size (.cells (zs 64) 114)
          replace hV := hV.alloc (.cells (zs 64) 114)
          have hWn := hS2.size
          have hW := Blk.new (((w.drew).alloc (.cells (zs 8) 99)).alloc (.cells (Us ks) 114)) 114 (zs 64)
          refine hK.out _ _ hS (fun hS3 => ?_)
          clear hK K
          simp only [Act.put, List.setIfInBounds_toArray, List.set_cons_zero, List.set_cons_succ, List.getElem_toArray, List.getElem_cons_succ, List.getElem_cons_zero]
          refine wpAnyH_ready (rs := [6]) (by kernel_rfl) (by simp) (AllReadyH.cons (i := 6) rfl (fun K hK => ?_) AllReadyH.nil)
          rw [if_pos (wanted_none rfl)]
          refine wp_store_row 99 (.tmp 4) (.tmp 16) rfl _ (stA S).toArray rfl rfl 99 (zs 8) hV.heap rfl rfl (one_stA S) ?_
          refine hK.out _ _ (below_setRow hS3 hVn _) (fun hS6 => ?_)
          clear hK K
          have hV6 := blk_setRow hV (stA S).toArray
          have hW6 := hW.setRow_far (hV.ne_ hW (by decide)) (stA S).toArray
          refine wpAnyH_ready (rs := [7]) (by kernel_rfl) (by simp) (AllReadyH.cons (i := 7) rfl (fun K hK => ?_) AllReadyH.nil)
          rw [if_pos (wanted_none rfl)]
          refine wp_store_row 114 (.tmp 5) (.tmp 17) rfl _ (Us ks) rfl rfl 114 (zs 64) hW6.heap info114 zs_ks (one_Us _) ?_
          refine hK.out _ _ (below_setRow hS6 hWn _) (fun hS7 => ?_)
          clear hK K
          refine wpAnyH_done (by kernel_rfl) ?_ _
          simp only [Act.put, List.setIfInBounds_toArray, List.set_cons_zero, List.set_cons_succ, List.getElem_toArray, List.getElem_cons_succ, List.getElem_cons_zero]
          go_wp2_with fail
          go_meet
          exact ⟨_, _, rfl, rfl, hVn, hWn, hV6.setRow_far (hV.ne_ hW (by decide)).symm _, blk_setRow hW6 _, hS7⟩
      · rw [if_pos (wanted_none rfl)]
        refine wp_allocR 114 rfl (zs 64) (zero114 _) ?_
        have hS := hS1.alloc hS1.size (.cells (zs 64) 114)
        replace hV := hV.alloc (.cells (zs 64) 114)
        have hWn := hS1.size
        have hW := Blk.new ((w.drew).alloc (.cells (zs 8) 99)) 114 (zs 64)
        refine hK.out _ _ hS (fun hS2 => ?_)
        clear hK K
        refine wpAnyH_ready (rs := [3]) (by kernel_rfl) (by simp) (AllReadyH.cons (i := 3) rfl (fun K hK => ?_) AllReadyH.nil)
        · rw [if_pos (wanted_none rfl)]
          refine wp_const_ rfl ?_
          have hS := hS2.alloc hS2.size (.cells (Us ks) 114)
          replace hV := hV.alloc (.cells (Us ks) 114)
          replace hW := hW.alloc (.cells (Us ks) 114)
          refine hK.out _ _ hS (fun hS3 => ?_)
          clear hK K
          simp only [Act.put, List.setIfInBounds_toArray, List.set_cons_zero, List.set_cons_succ, List.getElem_toArray, List.getElem_cons_succ, List.getElem_cons_zero]
          refine wpAnyH_ready (rs := [6]) (by kernel_rfl) (by simp) (AllReadyH.cons (i := 6) rfl (fun K hK => ?_) AllReadyH.nil)
          rw [if_pos (wanted_none rfl)]
          refine wp_store_row 99 (.tmp 4) (.tmp 16) rfl _ (stA S).toArray rfl rfl 99 (zs 8) hV.heap rfl rfl (one_stA S) ?_
          refine hK.out _ _ (below_setRow hS3 hVn _) (fun hS6 => ?_)
          clear hK K
          have hV6 := blk_setRow hV (stA S).toArray
          have hW6 := hW.setRow_far (hV.ne_ hW (by decide)) (stA S).toArray
          refine wpAnyH_ready (rs := [7]) (by kernel_rfl) (by simp) (AllReadyH.cons (i := 7) rfl (fun K hK => ?_) AllReadyH.nil)
          rw [if_pos (wanted_none rfl)]
          refine wp_store_row 114 (.tmp 5) (.tmp 17) rfl _ (Us ks) rfl rfl 114 (zs 64) hW6.heap info114 zs_ks (one_Us _) ?_
          refine hK.out _ _ (below_setRow hS6 hWn _) (fun hS7 => ?_)
          clear hK K
          refine wpAnyH_done (by kernel_rfl) ?_ _
          simp only [Act.put, List.setIfInBounds_toArray, List.set_cons_zero, List.set_cons_succ, List.getElem_toArray, List.getElem_cons_succ, List.getElem_cons_zero]
          go_wp2_with fail
          go_meet
          exact ⟨_, _, rfl, rfl, hVn, hWn, hV6.setRow_far (hV.ne_ hW (by decide)).symm _, blk_setRow hW6 _, hS7⟩
    · rw [if_pos (wanted_none rfl)]
      refine wp_allocR 114 rfl (zs 64) (zero114 _) ?_
      have hS := hS0.alloc hS0.size (.cells (zs 64) 114)
      have hWn := hS0.size
      have hW := Blk.new (w.drew) 114 (zs 64)
      refine hK.out _ _ hS (fun hS1 => ?_)
      clear hK K
      refine wpAnyH_ready (rs := [3, 4]) (by kernel_rfl) (by simp) (AllReadyH.cons (i := 3) rfl (fun K hK => ?_) (AllReadyH.cons (i := 4) rfl (fun K hK => ?_) AllReadyH.nil))
      · rw [if_pos (wanted_none rfl)]
        refine wp_const_ rfl ?_
        have hS := hS1.alloc hS1.size (.cells (Us ks) 114)
        replace hW := hW.alloc (.cells (Us ks) 114)
        refine hK.out _ _ hS (fun hS2 => ?_)
        clear hK K
        refine wpAnyH_ready (rs := [4]) (by kernel_rfl) (by simp) (AllReadyH.cons (i := 4) rfl (fun K hK => ?_) AllReadyH.nil)
        · rw [if_pos (wanted_none rfl)]
          refine wp_allocR 99 rfl (zs 8) (zero99 _) ?_
          have hS := hS2.alloc hS2.size (.cells (zs 8) 99)
          replace hW := hW.alloc (.cells (zs 8) 99)
          have hVn := hS2.size
          have hV := Blk.new (((w.drew).alloc (.cells (zs 64) 114)).alloc (.cells (Us ks) 114)) 99 (zs 8)
          refine hK.out _ _ hS (fun hS3 => ?_)
          clear hK K
          simp only [Act.put, List.setIfInBounds_toArray, List.set_cons_zero, List.set_cons_succ, List.getElem_toArray, List.getElem_cons_succ, List.getElem_cons_zero]
          refine wpAnyH_ready (rs := [6]) (by kernel_rfl) (by simp) (AllReadyH.cons (i := 6) rfl (fun K hK => ?_) AllReadyH.nil)
          rw [if_pos (wanted_none rfl)]
          refine wp_store_row 99 (.tmp 4) (.tmp 16) rfl _ (stA S).toArray rfl rfl 99 (zs 8) hV.heap rfl rfl (one_stA S) ?_
          refine hK.out _ _ (below_setRow hS3 hVn _) (fun hS6 => ?_)
          clear hK K
          have hV6 := blk_setRow hV (stA S).toArray
          have hW6 := hW.setRow_far (hV.ne_ hW (by decide)) (stA S).toArray
          refine wpAnyH_ready (rs := [7]) (by kernel_rfl) (by simp) (AllReadyH.cons (i := 7) rfl (fun K hK => ?_) AllReadyH.nil)
          rw [if_pos (wanted_none rfl)]
          refine wp_store_row 114 (.tmp 5) (.tmp 17) rfl _ (Us ks) rfl rfl 114 (zs 64) hW6.heap info114 zs_ks (one_Us _) ?_
          refine hK.out _ _ (below_setRow hS6 hWn _) (fun hS7 => ?_)
          clear hK K
          refine wpAnyH_done (by kernel_rfl) ?_ _
          simp only [Act.put, List.setIfInBounds_toArray, List.set_cons_zero, List.set_cons_succ, List.getElem_toArray, List.getElem_cons_succ, List.getElem_cons_zero]
          go_wp2_with fail
          go_meet
          exact ⟨_, _, rfl, rfl, hVn, hWn, hV6.setRow_far (hV.ne_ hW (by decide)).symm _, blk_setRow hW6 _, hS7⟩
      · rw [if_pos (wanted_none rfl)]
        refine wp_allocR 99 rfl (zs 8) (zero99 _) ?_
        have hS := hS1.alloc hS1.size (.cells (zs 8) 99)
        replace hW := hW.alloc (.cells (zs 8) 99)
        have hVn := hS1.size
        have hV := Blk.new ((w.drew).alloc (.cells (zs 64) 114)) 99 (zs 8)
        refine hK.out _ _ hS (fun hS2 => ?_)
        clear hK K
        refine wpAnyH_ready (rs := [3]) (by kernel_rfl) (by simp) (AllReadyH.cons (i := 3) rfl (fun K hK => ?_) AllReadyH.nil)
        · rw [if_pos (wanted_none rfl)]
          refine wp_const_ rfl ?_
          have hS := hS2.alloc hS2.size (.cells (Us ks) 114)
          replace hV := hV.alloc (.cells (Us ks) 114)
          replace hW := hW.alloc (.cells (Us ks) 114)
          refine hK.out _ _ hS (fun hS3 => ?_)
          clear hK K
          simp only [Act.put, List.setIfInBounds_toArray, List.set_cons_zero, List.set_cons_succ, List.getElem_toArray, List.getElem_cons_succ, List.getElem_cons_zero]
          refine wpAnyH_ready (rs := [6]) (by kernel_rfl) (by simp) (AllReadyH.cons (i := 6) rfl (fun K hK => ?_) AllReadyH.nil)
          rw [if_pos (wanted_none rfl)]
          refine wp_store_row 99 (.tmp 4) (.tmp 16) rfl _ (stA S).toArray rfl rfl 99 (zs 8) hV.heap rfl rfl (one_stA S) ?_
          refine hK.out _ _ (below_setRow hS3 hVn _) (fun hS6 => ?_)
          clear hK K
          have hV6 := blk_setRow hV (stA S).toArray
          have hW6 := hW.setRow_far (hV.ne_ hW (by decide)) (stA S).toArray
          refine wpAnyH_ready (rs := [7]) (by kernel_rfl) (by simp) (AllReadyH.cons (i := 7) rfl (fun K hK => ?_) AllReadyH.nil)
          rw [if_pos (wanted_none rfl)]
          refine wp_store_row 114 (.tmp 5) (.tmp 17) rfl _ (Us ks) rfl rfl 114 (zs 64) hW6.heap info114 zs_ks (one_Us _) ?_
          refine hK.out _ _ (below_setRow hS6 hWn _) (fun hS7 => ?_)
          clear hK K
          refine wpAnyH_done (by kernel_rfl) ?_ _
          simp only [Act.put, List.setIfInBounds_toArray, List.set_cons_zero, List.set_cons_succ, List.getElem_toArray, List.getElem_cons_succ, List.getElem_cons_zero]
          go_wp2_with fail
          go_meet
          exact ⟨_, _, rfl, rfl, hVn, hWn, hV6.setRow_far (hV.ne_ hW (by decide)).symm _, blk_setRow hW6 _, hS7⟩
  case rest =>
    obtain ⟨V, K, rfl, rfl, hVn, hKn, hV, hK, hBl⟩ := hcut
    have hgV : g ≠ V := by omega
    have hB' : BytesAt wc bk off b := hB.below hBl (hB.lt (by omega))
    go_wp2_with (first | (go_at_call 103; refine (spread_any b hb bk off c _ hB').mono ?_; rintro e w1 ⟨rfl, hb1⟩))
    replace hV := hV.below hb1 hV.lt
    replace hK := hK.below hb1 hK.lt
    replace hBl := hBl.trans (hb1.mono hBl.size)
    clear hb1 hB' c0 c1 c2 c3 c4 c5 c6 c7
    obtain ⟨sl, hsl⟩ : ∃ sl, sl = sched b := ⟨_, rfl⟩
    have HSL := Lib.hid hsl
    rw [← hsl]
    clear hsl
    go_loopw [20] (fun v wr => ∃ k : Nat, k ≤ 64 ∧ v = .int .i64 k ∧ Blk wr V 99 (stA (turns sl S k)).toArray ∧ Blk wr K 114 (Us ks) ∧ Below w.heap.size w wr) (fun v _ => 64 - (intOf v).toNat)
    case atStart => exact ⟨0, by omega, rfl, hV, hK, hBl⟩
    case round =>
      clear hV hK hBl
      obtain ⟨k, hk, rfl, hV, hK, hBl⟩ := hrel
      by_cases hlt : k < 64
      · have hix : (Us sl)[k]? = some (.int .u32 ((sl.getD k 0 : Nat) : Int)) := get_Us _ _ (by rw [HSL.out, sched_length]; exact hlt)
        obtain ⟨wk, hwk⟩ : ∃ x, x = sl.getD k 0 := ⟨_, rfl⟩
        obtain ⟨T, hT⟩ : ∃ T, T = turns sl S k := ⟨_, rfl⟩
        rw [← hwk] at hix
        rw [← hT] at hV
        have HT := Lib.hid hT
        have HW := Lib.hid hwk
        have HIX := Lib.hid hix
        clear hT hwk hix
        have v0 := hV.cell 0
        have v1 := hV.cell 1
        have v2 := hV.cell 2
        have v3 := hV.cell 3
        have v4 := hV.cell 4
        have v5 := hV.cell 5
        have v6 := hV.cell 6
        have v7 := hV.cell 7
        simp [stA, U] at v0 v1 v2 v3 v4 v5 v6 v7
        have kk := (hK.cell k).trans (get_Us ks k hlt)
        obtain ⟨kx, hkx⟩ : ∃ x, x = ks.getD k 0 := ⟨_, rfl⟩
        rw [← hkx] at kk
        have HK := Lib.hid hkx
        clear hkx
        have hTo : St.ok T := by rw [HT.out]; exact hok.turns _ _
        have ba := hTo.a
        have be := hTo.e
        have s1 := sig1_spell T.e be
        have s0 := sig0_spell T.a ba
        have sc := ch_spell T.e T.f T.g be hTo.f hTo.g
        have sm := maj_spell T.a T.b T.c ba hTo.b hTo.c
        have e1 := t1_spell T kx wk
        have e2 := t2_spell T
        have e3 := add_spell (t1 T kx wk) (t2 T)
        have e4 := add_spell T.d (t1 T kx wk)
        clear hTo
        go_wp2_with (first | (with_reducible refine wpList_indexR rfl 114 (.tmp 19) (.tmp 20) rfl (Us sl) .i64 k rfl rfl 64 91 Tryd.underlying114 hlt (isAgg91 _) (sizeOf91 _) _ HIX.out ?_))
        go_quiet (fail)
        go_wp2_with fail
        go_quiet ((go_at_call 104; first | exact Calls.quiet_of_same (turned_same _ _ _ (by assumption) (by omega) (by omega)) | exact quiet_add_same (turned_same _ _ _ (by assumption) (by omega) (by omega))))
        go_wp2_with fail
        go_quiet ((go_at_call 104; first | exact Calls.quiet_of_same (turned_same _ _ _ (by assumption) (by omega) (by omega)) | exact quiet_add_same (turned_same _ _ _ (by assumption) (by omega) (by omega))))
        go_wp2_with (first | (with_reducible refine wpList_buildR rfl 99 _ rfl (stA (turn T kx wk)).toArray (by kernel_rfl) ?_) | (with_reducible refine wpList_store_row rfl 99 (.tmp 4) (.tmp 97) rfl V (stA (turn T kx wk)).toArray rfl rfl 99 (stA T).toArray (hV.drewN _).heap (info99' _) (stA_size _ _) (one_stA _) ?_))
        go_roundw
        case rel =>
          refine ⟨k + 1, by omega, by go_num, ?_, (hK.drewN _).setRow_far (hV.ne_ hK (by decide)) _, below_setRow (below_drewN hBl _) hVn _⟩
          rw [show turns sl S (k + 1) = turn T kx wk from by rw [HT.out, HW.out, HK.out]; rfl]
          exact blk_setRow (hV.drewN _) _
        case measure => simp [intOf]; omega
      · have hge : 64 ≤ k := by omega
        have hk64 : turns sl S k = turns sl S 64 := by rw [show k = 64 from by omega]
        obtain ⟨T, hT⟩ : ∃ T, T = turns sl S k := ⟨_, rfl⟩
        rw [← hT] at hV
        have HT := Lib.hid (hT.trans hk64)
        clear hT hk64
        have hG := only_of_below hBl (some g)
        have hSg := hS.below hBl hg
        rw [stA_toList] at hSg
        go_wp2_with (first | (with_reducible refine wpList_load_row rfl 99 (.tmp 4) rfl V rfl 99 (stA T).toArray (0, 0) _ hV.heap Tryd.underlying99 rfl (info99' _) ?_))
        go_loopw [100] (fun v wx => ∃ i : Nat, i ≤ 8 ∧ v = .int .i64 i ∧ Blk wx g t ((upd S.toList T.toList i).map U ++ rest).toArray ∧ w.grownBy wx (some g)) (fun v _ => 8 - (intOf v).toNat)
        case atStart => exact ⟨0, by omega, rfl, hSg, hG⟩
        case round =>
          clear hV hK hBl hSg hG
          obtain ⟨i, hi, rfl, hSg, hG⟩ := hrel
          by_cases hlt : i < 8
          · have hl : (upd S.toList T.toList i).length = 8 := upd_length _ _ _
            have hc := (hSg.cell i).trans (get_row _ rest i (by omega))
            have hf := hSg.frozen i
            have hix : ((stA T).toArray)[i]? = some (.int .u32 ((T.toList.getD i 0 : Nat) : Int)) := by
              have := get_row T.toList [] i hlt
              simpa [stA_toList] using this
            obtain ⟨x, hx⟩ : ∃ x, x = (upd S.toList T.toList i).getD i 0 := ⟨_, rfl⟩
            obtain ⟨y, hy⟩ : ∃ y, y = T.toList.getD i 0 := ⟨_, rfl⟩
            rw [← hx] at hc
            rw [← hy] at hix
            have HX := Lib.hid hx
            have HY := Lib.hid hy
            have HIX := Lib.hid hix
            have HL := Lib.hid hl
            clear hx hy hix hl
            have e1 := add_spell x y
            go_wp2_with (first | (with_reducible refine wpList_indexR rfl 99 (.tmp 99) (.tmp 100) rfl (stA T).toArray .i64 i rfl rfl 8 91 Tryd.underlying99 hlt (isAgg91 _) (sizeOf91 _) _ HIX.out ?_))
            go_region
            all_goals go_wp2
            go_roundw
            case rel =>
              refine ⟨i + 1, by omega, by go_num, ?_, only_drew (only_setCell hG (.inl rfl) _)⟩
              have h1 := hSg.set_ i (.int .u32 (add x y : Int))
              rw [set_row _ _ _ _ (by rw [HL.out]; exact hlt)] at h1
              rw [show upd S.toList T.toList (i + 1) = (upd S.toList T.toList i).set i (add x y) from by rw [HX.out, HY.out]; rfl]
              exact h1.drew
            case measure => simp [intOf]; omega
          · have e8 : i = 8 := by omega
            have hfin : ((upd S.toList T.toList i).map U ++ rest).toArray = (stA (block S b) ++ rest).toArray := by
              rw [e8, upd_all, HT.out, HSL.out]; rfl
            have HF := Lib.hid hfin
            clear hfin e8
            go_wp2
            go_end0
            exact ⟨rfl, by rw [← HF.out]; exact hSg, hG⟩
end Go.Proofs.YtjpaajpjajoijaaDoor
