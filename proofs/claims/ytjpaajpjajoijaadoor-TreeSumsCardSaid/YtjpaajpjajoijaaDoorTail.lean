/- A region that draws its order, whose first n operations only read or call quietly (they may draw), and whose last ones stand in one forced order behind all of these (a store, an append): one walk in the text's order serves every order. It joins the library's two theorems (the quiet region; the still head with a tail). -/
import Derived.StillTail
import Derived.StillTactics
import Derived.Deep.QuietTactic
import Derived.BigQuiet
namespace Go.Proofs.YtjpaajpjajoijaaDoor
open Go

section
variable {P : Program} {ops : Array Oper} {md : Region.Mode} {C : World → Prop}

/-- The head's operations come up in whatever order; behind them L. -/
def headQ (P : Program) (md : Region.Mode) (ops : Array Oper) (C : World → Prop) (n : Nat) (L : Array Bool → Act → Prop) : Nat → Array Bool → Act → Prop
  | 0, listed, a => L listed a
  | f + 1, listed, a => Region.ready md ops listed ≠ [] ∧ ∀ i ∈ Region.ready md ops listed, i < n ∧ qOp P ops C i (headQ P md ops C n L f (listed.setIfInBounds i true)) a

theorem headQ_wpAny {n g : Nat} {L : Array Bool → Act → Prop} {Q' : Exit → Act → World → Prop} (hL : ∀ listed a w, C w → L listed a → wpAny P md ops Q' g listed a w) :
    ∀ (f : Nat) (listed : Array Bool) (a : Act) (w : World), C w → headQ P md ops C n L f listed a → wpAny P md ops Q' (f + g) listed a w
  | 0, listed, a, w, hw, h => by rw [Nat.zero_add]; exact hL _ _ _ hw h
  | f + 1, listed, a, w, hw, h => by
    rw [show f + 1 + g = (f + g) + 1 from by omega]
    exact ⟨fun h0 => absurd h0 h.1, fun i hi => wpOp_of_qOp hw (fun a' w' hw' h' => headQ_wpAny hL f _ a' w' hw' h') (h.2 i hi).2⟩

/-- Each operation from p on, ahead of n, is waited for by a later one up to n. -/
def sinkFrom (md : Region.Mode) (ops : Array Oper) (p n : Nat) : Bool :=
  (List.range n).all fun i => decide (i < p) || (List.range (n + 1)).any fun j => decide (i < j) && Region.waitsFor md ops j i
/-- The first p operations, just these or more, are listed; what is listed is closed; no operation from n on is. -/
structure HeadP (md : Region.Mode) (ops : Array Oper) (p n : Nat) (listed : Array Bool) : Prop where
  inv : HeadInv md ops n listed
  pre : ∀ i, i < p → listed.getD i false = true
theorem HeadP.set {p n i : Nat} {listed : Array Bool} (h : HeadP md ops p n listed) (hi : i ∈ Region.ready md ops listed) (hin : i < n) : HeadP md ops p n (listed.setIfInBounds i true) :=
  ⟨h.inv.set hi hin, fun j hj => getD_set_true (h.pre j hj)⟩

theorem tail_waitsP {p n : Nat} {listed : Array Bool} (hs : sinkFrom md ops p n = true) (hc : Region.chainB md ops n = true) (hn : n < ops.size) (inv : HeadP md ops p n listed) :
    ∀ (d i : Nat), n - i = d → i < n → listed.getD i true = false → ∀ t, n ≤ t → t ∉ Region.ready md ops listed := by
  intro d
  induction d using Nat.strongRecOn with
  | _ d ih =>
    intro i hd hi hun t ht hr
    obtain ⟨_, ot, hot, hall⟩ := mem_ready.1 hr
    have htlt : t < ops.size := (Array.getElem?_eq_some_iff.1 hot).1
    by_cases htn : t = n
    · subst htn
      have h1 := List.all_eq_true.1 hs i (List.mem_range.2 hi)
      simp only [Bool.or_eq_true, decide_eq_true_eq] at h1
      rcases h1 with h1 | h1
      · have h2 := inv.pre i h1
        rw [getD_both hun] at h2
        cases h2
      obtain ⟨j, hj, hj2⟩ := List.any_eq_true.1 h1
      simp only [Bool.and_eq_true, decide_eq_true_eq] at hj2
      obtain ⟨oj, hoj, e, he, hb, hon⟩ := Region.waitsFor_spec hj2.2
      have hjle : j ≤ t := by have := List.mem_range.1 hj; omega
      by_cases hjt : j = t
      · subst hjt
        have : oj = ot := Option.some.inj (hoj.symm.trans hot)
        subst this
        have h2 := hall e he hb
        rw [hon, getD_both hun] at h2
        cases h2
      · cases hl : listed.getD j false with
        | true =>
          have h2 := inv.inv.closed j oj hoj hl e he hb
          rw [hon, getD_both hun] at h2
          cases h2
        | false =>
          have hjs : j < listed.size := by rw [inv.inv.size]; omega
          exact ih (t - j) (by omega) j rfl (by omega) (getD_in hjs hl) t (Nat.le_refl _) hr
    · have h1 := List.all_eq_true.1 hc t (List.mem_range.2 htlt)
      simp only [Bool.or_eq_true, decide_eq_true_eq] at h1
      rcases h1 with h1 | h1
      · omega
      · obtain ⟨o', ho', e, he, hb, hon⟩ := Region.waitsFor_spec h1
        have : o' = ot := Option.some.inj (ho'.symm.trans hot)
        subst this
        have h2 := hall e he hb
        rw [hon, getD_both (inv.inv.tail (t - 1) (by omega) (by omega))] at h2
        cases h2

theorem headQ_first {p n i : Nat} {oi : Oper} {v : Value} {L : Array Bool → Act → Prop} (hi : ops[i]? = some oi) (hsel : ∀ (j : Nat) (o : Oper) cs b, ops[j]? = some o → o.op ≠ .select cs b)
    (hs : sinkFrom md ops p n = true) (hc : Region.chainB md ops n = true) (hn : n < ops.size) (hin : i < n)
    (hdone : ∀ listed a, L listed a → ∀ j ∈ Region.ready md ops listed, n ≤ j) :
    ∀ (f : Nat) (listed : Array Bool) (a : Act), HeadP md ops p n listed →
      (∀ j oj, ops[j]? = some oj → j ≠ i → listed.getD j true = false → (∀ e ∈ oj.after, Region.binds md e = true → e.on ≠ i) → oi.apart ops oj = true) →
      i ∈ Region.ready md ops listed → YieldsIn P ops C oi v a →
      headQ P md ops C n L f (listed.setIfInBounds i true) (a.put oi.dst v) → headQ P md ops C n L (f + 1) listed a := by
  intro f
  induction f with
  | zero =>
    intro listed a inv _ hr hy H
    have hun := (mem_ready.1 hr).1
    refine ⟨fun h => (by rw [h] at hr; cases hr), fun j hj => ?_⟩
    have hjn : j < n := by
      rcases Nat.lt_or_ge j n with h | h
      · exact h
      · exact absurd hj (tail_waitsP hs hc hn inv _ i rfl hin hun j h)
    refine ⟨hjn, ?_⟩
    by_cases hji : j = i
    · subst hji; exact hy.qOp hi H
    · have := hdone _ _ H j (ready_mono hj hji)
      omega
  | succ f ih =>
    intro listed a inv hfree hr hy H
    have hun := (mem_ready.1 hr).1
    refine ⟨fun h => (by rw [h] at hr; cases hr), fun j hj => ?_⟩
    have hjn : j < n := by
      rcases Nat.lt_or_ge j n with h | h
      · exact h
      · exact absurd hj (tail_waitsP hs hc hn inv _ i rfl hin hun j h)
    refine ⟨hjn, ?_⟩
    by_cases hji : j = i
    · subst hji; exact hy.qOp hi H
    · have h1 := (H.2 j (ready_mono hj hji)).2
      obtain ⟨hjun, oj, hoj, hall⟩ := mem_ready.1 hj
      have hnot : ∀ e ∈ oj.after, Region.binds md e = true → e.on ≠ i := fun e he hb heq => by
        have h1 := hall e he hb
        rw [heq, getD_both hun] at h1
        cases h1
      have h2 := qOp_put hoj (hfree j oj hoj hji hjun hnot) (fun cs b => hsel i oi cs b hi) (fun cs b => hsel j oj cs b hoj) hy h1
      have hfree' : ∀ k ok, ops[k]? = some ok → k ≠ i → (listed.setIfInBounds j true).getD k true = false →
          (∀ e ∈ ok.after, Region.binds md e = true → e.on ≠ i) → oi.apart ops ok = true := fun k ok hk hki hun hno => by
        refine hfree k ok hk hki ?_ hno
        by_cases hjk : j = k
        · subst hjk; exact hjun
        · rw [getD_set_ne true hjk] at hun; exact hun
      refine qOp_mono (fun a' h3 => ih (listed.setIfInBounds j true) a' (inv.set hj hjn) hfree' (ready_mono hr (Ne.symm hji)) h3.1 ?_) h2
      rw [Array.setIfInBounds_comm _ _ hji]
      exact h3.2

theorem headQ_lex {p n g : Nat} {Lq : Act → Prop} (hsel : Region.noSelect ops = true) (hs : sinkFrom md ops p n = true) (hc : Region.chainB md ops n = true) (hn : n < ops.size) :
    ∀ (l : List Oper) (k : Nat) (listed : Array Bool) (a : Act), (∀ j, j < l.length → l[j]? = ops[k + j]?) → k + l.length = n → HeadP md ops p n listed →
    Region.lexHead md ops g l.length k listed = true → wpQuiet P ops C Lq l a →
    headQ P md ops C n (fun listed' a' => Region.seqB md ops g n listed' = true ∧ Lq a') l.length listed a
  | [], k, listed, a, _, hk, _, hB, h => by
    have : k = n := by simpa using hk
    subst this
    exact ⟨by simpa [Region.lexHead] using hB, h⟩
  | o :: l, k, listed, a, hl, hk, inv, hB, h => by
    have h0 : ops[k]? = some o := by simpa using (hl 0 (by simp)).symm
    simp only [List.length_cons, Region.lexHead, Bool.and_eq_true] at hB
    obtain ⟨⟨hr, hf⟩, hB'⟩ := hB
    have hkn : k < n := by simp only [List.length_cons] at hk; omega
    have hr' : k ∈ Region.ready md ops listed := by simpa using hr
    have hst : qOp P ops C k (wpQuiet P ops C Lq l) a := by unfold qOp; simp only [h0]; exact h
    obtain ⟨v, hy, hK⟩ := yieldsIn_of_qOp h0 hst
    exact headQ_first h0 (Region.noSelect_spec hsel) hs hc hn hkn (fun listed' a' hL => seqB_ready hL.1) l.length listed a inv (Region.free_spec h0 hf) hr' hy
      (headQ_lex hsel hs hc hn l (k + 1) _ _ (fun j hj => by have := hl (j + 1) (by simp; omega); simpa [Nat.add_assoc, Nat.add_comm 1 j] using this) (by simp only [List.length_cons] at hk; omega) (inv.set hr' hkn) hB' hK)

/-- The Bool that is to be looked at: the first p operations stand listed, those up to n are a head that all of the rest waits for, the rest is one chain. -/
def tailFrom (md : Region.Mode) (ops : Array Oper) (p n : Nat) (listed : Array Bool) : Bool :=
  Region.noSelect ops && decide (p ≤ n) && decide (n < ops.size) && sinkFrom md ops p n && Region.chainB md ops n && Region.lexHead md ops (ops.size - n) (n - p) p listed && decide (listed.size = ops.size)
    && (List.range ops.size).all (fun i => listed.getD i false == decide (i < p))
    && (List.range p).all (fun i => ((ops[i]?).map fun o => o.after.all fun e => !Region.binds md e || decide (e.on < p)).getD true)

theorem wpAny_quiet_tail {Q : Exit → Act → World → Prop} {a : Act} {w : World} {l : List Oper} {listed : Array Bool} (p n : Nat) (hB : tailFrom md l.toArray p n listed = true) (hC : C w)
    (h : wpQuiet P l.toArray C (fun a' => ∀ w', C w' → wpList P l.toArray Q (l.drop n) a' w') ((l.take n).drop p) a) : wpAny P md l.toArray Q (l.toArray.size - p) listed a w := by
  simp only [tailFrom, Bool.and_eq_true, decide_eq_true_eq] at hB
  obtain ⟨⟨⟨⟨⟨⟨⟨⟨hsel, hpn⟩, hn⟩, hs⟩, hc⟩, hlex⟩, hsz⟩, hlist⟩, hclosed⟩ := hB
  have hn' : n < l.length := by simpa using hn
  have htl : ((l.take n).drop p).length = n - p := by simp; omega
  have hdl : (l.drop n).length = l.toArray.size - n := by simp
  have hl : ∀ i, i < l.toArray.size → listed.getD i false = decide (i < p) := fun i hi => by
    have := List.all_eq_true.1 hlist i (List.mem_range.2 hi)
    simpa using this
  have inv0 : HeadP md l.toArray p n listed := by
    refine ⟨⟨hsz, fun j oj hj hlj e he hb => ?_, fun t ht htl => ?_⟩, fun i hi => ?_⟩
    · have hjs : j < l.toArray.size := (Array.getElem?_eq_some_iff.1 hj).1
      rw [hl j hjs] at hlj
      have h1 := List.all_eq_true.1 hclosed j (List.mem_range.2 (by simpa using hlj))
      rw [hj] at h1
      have h2 := Array.all_eq_true'.1 (show (oj.after.all fun e => !Region.binds md e || decide (e.on < p)) = true from h1) e he
      rw [hb] at h2
      have h3 : e.on < p := by simpa using h2
      rw [hl _ (by omega)]
      simpa using h3
    · refine getD_in (by omega) ?_
      rw [hl t htl]
      simp
      omega
    · rw [hl i (by omega)]
      simpa using hi
  have H := headQ_lex (md := md) (C := C) (g := l.toArray.size - n) hsel hs hc hn ((l.take n).drop p) p listed a (fun j hj => by
    rw [htl] at hj
    rw [List.getElem?_drop, List.getElem?_take]
    simp
    omega) (by rw [htl]; omega) inv0 (by rw [htl]; exact hlex) h
  have := headQ_wpAny (Q' := Q) (g := l.toArray.size - n) (C := C) (fun listed a' w' hw' hL => by
    have := wpAny_of_seq (md := md) (Q' := Q) (l.drop n) n listed a' w' (fun j => by simp [List.getElem?_drop]) (by rw [hdl]; exact hL.1) (hL.2 w' hw')
    rwa [hdl] at this) _ _ _ w hC H
  rw [htl, show n - p + (l.toArray.size - n) = l.toArray.size - p from by omega] at this
  exact this

/-- From the region's begin: p operations are taken first, one by one; what is left behind them. -/
theorem wp_region_quiet_tail {id : Nat} {Q : Exit → Act → World → Prop} {a : Act} {w : World} {l : List Oper} (n : Nat) (hm : P.follows .mixedOrders = true) (hB : tailFrom .any l.toArray 0 n (Array.replicate l.toArray.size false) = true)
    (h : wpQuiet P l.toArray (fun w' => ∃ m, w' = w.drewN m) (fun a' => ∀ w', (∃ m, w' = w.drewN m) → wpList P l.toArray Q (l.drop n) a' w') (l.take n) a) : (Code.region id l.toArray true).wp P Q a w :=
  wp_region_any hm (by
    have := wpAny_quiet_tail (md := .any) (C := fun w' => ∃ m, w' = w.drewN m) (Q := Q) (w := { w with drawn := w.drawn + 1 }) 0 n hB ⟨1, rfl⟩ (by simpa using h)
    simpa using this)
/-- The same where the first operation (it only moves a value) is waited for by the tail alone: it is taken first. -/
theorem wp_region_quiet_tail1 {id : Nat} {Q : Exit → Act → World → Prop} {a : Act} {w : World} {o : Oper} {l : List Oper} (n : Nat) (v : Value) (hm : P.follows .mixedOrders = true)
    (hf : Region.free .any (o :: l).toArray (Array.replicate (o :: l).toArray.size false) 0 = true) (hr : (Region.ready .any (o :: l).toArray (Array.replicate (o :: l).toArray.size false)).contains 0 = true)
    (hB : tailFrom .any (o :: l).toArray 1 n ((Array.replicate (o :: l).toArray.size false).setIfInBounds 0 true) = true)
    (hQ : ∀ c a w, Q (.panic c) (a.put o.dst v) w → Q (.panic c) a w) (hy : Yields P (o :: l).toArray o v a)
    (h : wpQuiet P (o :: l).toArray (fun w' => ∃ m, w' = w.drewN m) (fun a' => ∀ w', (∃ m, w' = w.drewN m) → wpList P (o :: l).toArray Q ((o :: l).drop n) a' w') (((o :: l).take n).drop 1) (a.put o.dst v)) :
    (Code.region id (o :: l).toArray true).wp P Q a w :=
  wp_region_any hm (by
    have h1 := wpAny_quiet_tail (md := .any) (C := fun w' => ∃ m, w' = w.drewN m) (Q := Q) (w := { w with drawn := w.drawn + 1 }) 1 n hB ⟨1, rfl⟩ h
    have hs : Region.noSelect (o :: l).toArray = true := by
      simp only [tailFrom, Bool.and_eq_true] at hB
      exact hB.1.1.1.1.1.1.1.1
    have h2 := wpAny_take (i := 0) (oi := o) (v := v) (fuel := (o :: l).toArray.size - 1) (P := P) (md := .any) (ops := (o :: l).toArray) (Q := Q) (a := a) (w := { w with drawn := w.drawn + 1 }) (by simp) hs hf hr hQ hy h1
    have e : (o :: l).toArray.size - 1 + 1 = (o :: l).toArray.size := by simp
    rw [e] at h2
    exact h2)
end

end Go.Proofs.YtjpaajpjajoijaaDoor
