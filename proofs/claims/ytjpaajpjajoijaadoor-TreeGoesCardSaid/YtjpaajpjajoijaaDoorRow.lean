/- A row of files that is known whole: copies into it, a file stored into it, its end cleared. -/
import Derived.Test.YtjpaajpjajoijaaDoorRPut
import Derived.Laws.CopyOwn
import Derived.Lib.AppendZerosOnto
import Derived.Deep.AppendSrc
import Derived.Deep.MidRow
import Derived.Lib.Overlaps
import Derived.Shelf.RegionOpenPlain
namespace Go.Proofs.YtjpaajpjajoijaaDoor
set_option linter.unusedVariables false
open Go.RowKit
theorem grown_setRow (w : World) (g : Nat) (cs : Array Value) : w.grownBy (w.setRow g cs) (some g) :=
  ⟨rfl, rfl, rfl, by simp [World.setRow], fun k hk hne => setRow_other w g k cs (fun e => hne (by rw [e]))⟩
section
variable {P : Program}
/-- A copy into a row, elements of any size. -/
theorem run_copy_wide (w : World) (dT sT ty elem : TypeId) (i : TypeInfo) (g o dLen dCap : Nat) (a : Addr) (sLen sCap : Nat) (cur : List Value) (t : TypeId) (cs : List Value)
    (hu : P.underlying dT = some (.slice elem)) (hi : P.info? elem = some i)
    (hg : w.heap[g]? = some (.cells cur.toArray t (0, 0))) (hn : cs.length = Nat.min sLen dLen * i.size)
    (hsrc : ∀ j v, cs[j]? = some v → w.cell? (a.add j) = some v) (hfit : o + cs.length ≤ cur.length) (h1 : ∀ v ∈ cs, v.oneCell' = true) :
    (Builtin.copy_ #[dT, sT] ty #[.slice (some ⟨g, o, none⟩) dLen dCap, .slice (some a) sLen sCap]).run P w =
      .ok (goInt (Nat.min sLen dLen)) (w.setRow g (splice cur o cs).toArray) := by
  have hl := run_loadCells_list (P := P) w a cs hsrc
  have hst := run_storeCells_at P g o t cs 0 cur.toArray w hg (by simpa using hfit) h1
  simp [Builtin.copy_, run_underlying hu, Builtin.lenOf, Builtin.firstCells, sizeOf, typeInfo, hi, ← hn, hl, hst, splice]
theorem wpList_copy_wide {w : World} {ops : Array Oper} {rest : List Oper} {o : Oper} {a : Act} {Q : Exit → Act → World → Prop} (hgd : o.guard = none) (d s : Operand) (dT sT : TypeId)
    (ho : o.op = .call { callee := .builtin .copy, args := #[d, s], argTypes := #[dT, sT] }) (elem : TypeId) (i : TypeInfo) (hu : P.underlying dT = some (.slice elem)) (hi : P.info? elem = some i)
    (dp sp : Option Addr) (dLen dCap sLen sCap : Nat) (hd : a.eval d = .slice dp dLen dCap) (hs : a.eval s = .slice sp sLen sCap)
    (g off : Nat) (cur : List Value) (t : TypeId) (hg : w.heap[g]? = some (.cells cur.toArray t (0, 0))) (cs : List Value) (hn : cs.length = Nat.min sLen dLen * i.size)
    (hdp : dp = some ⟨g, off, none⟩) (ad : Addr) (hsp : sp = some ad) (hsrc : ∀ j v, cs[j]? = some v → w.cell? (ad.add j) = some v)
    (hfit : off + cs.length ≤ cur.length) (h1 : ∀ v ∈ cs, v.oneCell' = true)
    (h : ∀ w', Hid (w'.heap[g]? = some (.cells (splice cur off cs).toArray t (0, 0))) → w.grownBy w' (some g) → wpList P ops Q rest (a.put o.dst (goInt (Nat.min sLen dLen))) w') :
    wpList P ops Q (o :: rest) a w := by
  refine wpList_plain hgd fun K hK => ?_
  subst hdp; subst hsp
  have hrun := run_copy_wide (P := P) w dT sT o.type elem i g off dLen dCap ad sLen sCap cur t cs hu hi hg hn hsrc hfit h1
  unfold Oper.wp
  simp [execOp, ho, resolve, invoke, builtin, hd, hs, hrun, Result.andThen]
  exact hK _ _ (h _ (show _ = _ by exact setRow_heap w g _ _ t _ hg) (grown_setRow w g _))
theorem step_copy_wide {ops : Array Oper} {o : Oper} {a : Act} {w : World} {K : Act → World → Prop} {Q : Exit → Act → World → Prop} {E : Prop} (hgd : o.guard = none) (d s : Operand) (dT sT : TypeId)
    (ho : o.op = .call { callee := .builtin .copy, args := #[d, s], argTypes := #[dT, sT] }) (elem : TypeId) (i : TypeInfo) (hu : P.underlying dT = some (.slice elem)) (hi : P.info? elem = some i)
    (dp sp : Option Addr) (dLen dCap sLen sCap : Nat) (hd : a.eval d = .slice dp dLen dCap) (hs : a.eval s = .slice sp sLen sCap)
    (g off : Nat) (cur : List Value) (t : TypeId) (hg : w.heap[g]? = some (.cells cur.toArray t (0, 0))) (cs : List Value) (hn : cs.length = Nat.min sLen dLen * i.size)
    (hdp : dp = some ⟨g, off, none⟩) (ad : Addr) (hsp : sp = some ad) (hsrc : ∀ j v, cs[j]? = some v → w.cell? (ad.add j) = some v)
    (hfit : off + cs.length ≤ cur.length) (h1 : ∀ v ∈ cs, v.oneCell' = true)
    (h : ∀ w', Hid (w'.heap[g]? = some (.cells (splice cur off cs).toArray t (0, 0))) → w.grownBy w' (some g) → K (a.put o.dst (goInt (Nat.min sLen dLen))) w') :
    if Region.wanted o (yielded ops a.tmps) = true then Oper.wp P o a w K Q else E := by
  have hw : Region.wanted o (yielded ops a.tmps) = true := by simp [Region.wanted, hgd]
  rw [if_pos hw]
  subst hdp; subst hsp
  have hrun := run_copy_wide (P := P) w dT sT o.type elem i g off dLen dCap ad sLen sCap cur t cs hu hi hg hn hsrc hfit h1
  unfold Oper.wp
  simp [execOp, ho, resolve, invoke, builtin, hd, hs, hrun, Result.andThen]
  exact h _ (show _ = _ by exact setRow_heap w g _ _ t _ hg) (grown_setRow w g _)
/-- A struct stored into a row. -/
theorem wpList_store_wide {ops : Array Oper} {rest : List Oper} {op : Oper} {a : Act} {w : World} {Q : Exit → Act → World → Prop} (hgd : op.guard = none) (ty : TypeId) (x y : Operand) (ho : op.op = .store ty x y)
    (g off : Nat) (cells : List Value) (dp : Option Addr) (hx : a.eval x = .pointer dp) (hdp : dp = some ⟨g, off, none⟩) (hy : a.eval y = .agg cells.toArray) (cur : List Value) (t : TypeId) (hg : w.heap[g]? = some (.cells cur.toArray t (0, 0)))
    (hi : (P.info? ty).map (·.size) = some cells.length) (hfit : off + cells.length ≤ cur.length) (h1 : ∀ v ∈ cells, v.oneCell' = true)
    (h : ∀ w', Hid (w'.heap[g]? = some (.cells (splice cur off cells).toArray t (0, 0))) → w.grownBy w' (some g) → wpList P ops Q rest (a.put op.dst undef) w') : wpList P ops Q (op :: rest) a w := by
  refine wpList_plain hgd fun K hK => ?_
  subst hdp
  have hst := run_storeCells_at P g off t cells 0 cur.toArray w hg (by simpa using hfit) h1
  have hrun : (storeVar ty ⟨g, off, none⟩ (.agg cells.toArray)).run P w = .ok () (w.setRow g (splice cur off cells).toArray) := by
    cases hq : P.info? ty with
    | none => simp [hq] at hi
    | some i =>
      have hs : i.size = cells.length := by simpa [hq] using hi
      simp [storeVar, sizeOf, typeInfo, hq, Value.cells, hs, hst, splice]
  unfold Oper.wp execOp
  simp only [ho, hx, hy, Instr.storeAt, Instr.sureAddr, Sem.run_bind, Sem.run_pure, Result.andThen_ok, hrun]
  exact hK _ _ (h _ (show _ = _ by exact setRow_heap w g _ _ t _ hg) (grown_setRow w g _))
/-- The end of a row cleared. -/
theorem wpList_clear_wide {w : World} {ops : Array Oper} {rest : List Oper} {o : Oper} {a : Act} {Q : Exit → Act → World → Prop} (hgd : o.guard = none) (d : Operand) (dT : TypeId)
    (ho : o.op = .call { callee := .builtin .clear, args := #[d], argTypes := #[dT] }) (elem : TypeId) (i : TypeInfo) (z : Value) (hu : P.underlying dT = some (.slice elem)) (hi : P.info? elem = some i) (hz : i.zero = some z)
    (dp : Option Addr) (dLen dCap : Nat) (hd : a.eval d = .slice dp dLen dCap) (hl : 0 < dLen)
    (g off : Nat) (cur : List Value) (t : TypeId) (hg : w.heap[g]? = some (.cells cur.toArray t (0, 0)))
    (hdp : dp = some ⟨g, off, none⟩) (hfit : off + dLen * z.cells.size ≤ cur.length) (h1 : ∀ v ∈ (Builtin.zeroCells z.cells dLen).toList, v.oneCell' = true)
    (h : ∀ w', Hid (w'.heap[g]? = some (.cells (splice cur off (Builtin.zeroCells z.cells dLen).toList).toArray t (0, 0))) → w.grownBy w' (some g) → wpList P ops Q rest (a.put o.dst (.tuple #[])) w') :
    wpList P ops Q (o :: rest) a w := by
  refine wpList_plain hgd fun K hK => ?_
  subst hdp
  have hsz : (Builtin.zeroCells z.cells dLen).toList.length = dLen * z.cells.size := by simp [Builtin.zeroCells]
  have hst := run_storeCells_at P g off t (Builtin.zeroCells z.cells dLen).toList 0 cur.toArray w hg (by rw [hsz]; simpa using hfit) h1
  obtain ⟨m, rfl⟩ : ∃ m, dLen = m + 1 := ⟨dLen - 1, by omega⟩
  have hrun : (Builtin.clear_ #[dT] o.type #[.slice (some ⟨g, off, none⟩) (m + 1) dCap]).run P w = .ok (.tuple #[]) (w.setRow g (splice cur off (Builtin.zeroCells z.cells (m + 1)).toList).toArray) := by
    simp [Builtin.clear_, run_underlying hu, zeroValue, typeInfo, hi, hz, hst, splice]
  unfold Oper.wp
  simp [execOp, ho, resolve, invoke, builtin, hd, hrun, Result.andThen]
  exact hK _ _ (h _ (show _ = _ by exact setRow_heap w g _ _ t _ hg) (grown_setRow w g _))
end
/-- A row of files of the call's own, opened. -/
theorem own_open {w : World} {base n c : Nat} {A : Option Addr} {xs : List Value} (h : w.ownsRow base 36 2 (.slice A n c) n xs) (h0 : 0 < n) :
    ∃ g cur, A = some ⟨g, 0, none⟩ ∧ base ≤ g ∧ w.heap[g]? = some (.cells (List.toArray cur) 36 (0, 0)) ∧ n ≤ c ∧ c ≤ maxLen ∧ cur.length = c * 2 ∧ cur.take (n * 2) = xs := by
  rcases h.2 with ⟨h1, h2⟩ | ⟨g, cap, cur, hv, hb, hh, h1, h2, h3, h4⟩
  · omega
  · injection hv with hA _ hc
    subst hA; subst hc
    exact ⟨g, cur.toList, rfl, hb, by simpa using hh, h1, h2, by simpa using h3, h4⟩
theorem own_shut {w : World} {base n c g : Nat} {cur xs : List Value} (hb : base ≤ g) (hh : w.heap[g]? = some (.cells cur.toArray 36 (0, 0))) (h1 : n ≤ c) (h2 : c ≤ maxLen) (h3 : cur.length = c * 2) (h4 : cur.take (n * 2) = xs) :
    w.ownsRow base 36 2 (.slice (some ⟨g, 0, none⟩) n c) n xs :=
  ⟨by rw [← h4, List.length_take]; omega, .inr ⟨g, c, cur.toArray, rfl, hb, hh, h1, h2, by simpa using h3, by simpa using h4⟩⟩
theorem fcells_one' : ∀ (l : List FileB), ∀ v ∈ fcells l, v.oneCell' = true := by
  intro l v hv
  unfold fcells at hv
  rw [List.mem_flatMap] at hv
  obtain ⟨f, _, hf⟩ := hv
  rcases List.mem_cons.1 hf with rfl | hf
  · rfl
  · rcases List.mem_cons.1 hf with rfl | hf
    · rfl
    · cases hf
theorem fcells_take (l : List FileB) (i : Nat) : (fcells l).take (i * 2) = fcells (l.take i) := by
  induction l generalizing i with
  | nil => simp [fcells]
  | cons f l ih =>
    cases i with
    | zero => simp [fcells]
    | succ i =>
      rw [show fcells (f :: l) = .string f.1 :: .string f.2 :: fcells l from rfl, show (i + 1) * 2 = i * 2 + 1 + 1 from by omega, List.take_succ_cons, List.take_succ_cons, ih]
      rfl
theorem fcells_drop (l : List FileB) (i : Nat) : (fcells l).drop (i * 2) = fcells (l.drop i) := by
  induction l generalizing i with
  | nil => simp [fcells]
  | cons f l ih =>
    cases i with
    | zero => simp
    | succ i =>
      rw [show fcells (f :: l) = .string f.1 :: .string f.2 :: fcells l from rfl, show (i + 1) * 2 = i * 2 + 1 + 1 from by omega, List.drop_succ_cons, List.drop_succ_cons, ih]
      rfl
end Go.Proofs.YtjpaajpjajoijaaDoor
