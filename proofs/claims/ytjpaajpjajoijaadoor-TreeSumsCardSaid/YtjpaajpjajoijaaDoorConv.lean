/- []byte(s) and string(b), as a Win. -/
import Derived.Test.YtjpaajpjajoijaaDoorWin
import Derived.Laws.IdiomStrings
namespace Go.Proofs.YtjpaajpjajoijaaDoor
open Go.RowKit Sha
section
variable {P : Program} {w : World} {B g cap : Nat} {A : Option Addr} {l : List UInt8}
theorem run_bytes_win (src dst e : TypeId) (s : ByteArray) (hs : P.underlying src = some .string) (hd : P.underlying dst = some (.slice e)) (he : P.underlying e = some (.int .u8)) (hB : B ≤ w.heap.size) (hg : g < w.heap.size) (hm : s.size ≤ maxLen) :
    ∃ c w', (convert src dst (.string s)).run P w = .ok (.slice (some ⟨w.heap.size, 0, none⟩) s.size c) w' ∧ Win w' B g (some ⟨w.heap.size, 0, none⟩) s.data.toList c ∧ Kept w w' B g := by
  have hrun := run_bytes_of_string (P := P) w src dst e s hs hd he
  have hge := grownCap_ge w s.size 0 e
  have hcm := grownCap_le_maxLen w s.size 0 e hm
  have hsl : s.data.toList.length = s.size := rfl
  have hsz : ∀ c, s.size ≤ c → (bytesRow s c).size = c := fun c hc => by
    unfold bytesRow
    rw [Array.size_append, Array.size_map, Array.size_replicate]
    show s.size + (c - s.size) = c
    omega
  obtain ⟨c, hc⟩ : ∃ c, c = grownCap w s.size 0 e := ⟨_, rfl⟩
  rw [← hc] at hrun hge hcm
  have hb : (w.drew.alloc (.cells (bytesRow s c) e ((bytesRow s c).size, (bytesRow s c).size + 1))).heap[w.heap.size]? = some (.cells (bytesRow s c) e ((bytesRow s c).size, (bytesRow s c).size + 1)) := heap_alloc_new w.drew _
  have hcell : ∀ j, (w.drew.alloc (.cells (bytesRow s c) e ((bytesRow s c).size, (bytesRow s c).size + 1))).cell? ⟨w.heap.size, j, none⟩ = (bytesRow s c)[j]? := fun j => cell_of_row _ _ j _ e _ hb
  refine ⟨c, _, hrun, ⟨by rw [hsl]; exact hge, hcm, fun _ => ⟨w.heap.size, 0, rfl, hB, by omega, by simp, fun j hj => ?_, fun j hj => ⟨?_, ?_⟩⟩⟩, ⟨rfl, rfl, rfl, by simp, fun k hk _ => Below.heap_alloc w.drew _ k hk⟩⟩
  · rw [Nat.zero_add, hcell]
    unfold bytesRow
    have hj' : j < s.data.size := hj
    rw [Array.getElem?_append_left (by rw [Array.size_map]; exact hj'), Array.getElem?_map, Array.getElem?_eq_getElem hj']
    simp [List.getD]
    rw [Array.getElem?_eq_getElem hj']
    rfl
  · rw [Nat.zero_add, hcell, Array.getElem?_eq_getElem (by rw [hsz c hge]; exact hj)]
    rfl
  · rw [Nat.zero_add, hsz c hge] at *
    unfold World.frozen?
    rw [hb]
    simp
    omega
theorem wpList_bytes_win {ops : Array Oper} {rest : List Oper} {o : Oper} {a : Act} {Q : Exit → Act → World → Prop} (hgd : o.guard = none) (x : Operand) (src dst : TypeId) (ho : o.op = .convert src dst x)
    (e : TypeId) (s : ByteArray) (hs : P.underlying src = some .string) (hd : P.underlying dst = some (.slice e)) (he : P.underlying e = some (.int .u8)) (hx : a.eval x = .string s) (hB : B ≤ w.heap.size) (hg : g < w.heap.size) (hm : s.size ≤ maxLen)
    (hK : ∀ c w', Win w' B g (some ⟨w.heap.size, 0, none⟩) s.data.toList c → Kept w w' B g → wpList P ops Q rest (a.put o.dst (.slice (some ⟨w.heap.size, 0, none⟩) s.size c)) w') : wpList P ops Q (o :: rest) a w := by
  obtain ⟨c, w', hrun, h1, h2⟩ := run_bytes_win (P := P) src dst e s hs hd he hB hg hm
  refine wpList_plain hgd fun K hK' => ?_
  unfold Oper.wp execOp
  simp only [ho, hx, Sem.run_bind, hrun, Result.andThen_ok, Sem.run_pure]
  exact hK' _ _ (hK c w' h1 h2)
theorem wpList_text_win {ops : Array Oper} {rest : List Oper} {o : Oper} {a : Act} {Q : Exit → Act → World → Prop} (hgd : o.guard = none) (x : Operand) (src dst : TypeId) (ho : o.op = .convert src dst x)
    (e : TypeId) (hs : P.underlying src = some (.slice e)) (he : P.underlying e = some (.int .u8)) (hd : P.underlying dst = some .string) (n : Nat) (hx : a.eval x = .slice A n cap) (hn : n = l.length)
    (hl : 0 < l.length → ∃ b off, A = some ⟨b, off, none⟩ ∧ BytesAt w b off l)
    (hK : wpList P ops Q rest (a.put o.dst (.string ⟨l.toArray⟩)) w) : wpList P ops Q (o :: rest) a w := by
  subst hn
  have hrun : (convert src dst (.slice A l.length cap)).run P w = .ok (.string ⟨l.toArray⟩) w := by
    cases A with
    | none =>
      have h0 : l = [] := by
        rcases Nat.eq_zero_or_pos l.length with h0 | h0
        · exact List.eq_nil_of_length_eq_zero h0
        · obtain ⟨_, _, h, _⟩ := hl h0
          cases h
      subst h0
      show (convert src dst (.slice none 0 cap)).run P w = _
      rw [run_convert_bytes_string w src dst e _ 0 cap hs he hd]
      simp [Conv.bytesToString]
      rfl
    | some ad =>
      refine run_convert_bytes_back w src dst e ad cap l hs he hd (fun j hj => ?_)
      obtain ⟨b, off, h, hb⟩ := hl (by omega)
      cases h
      have := hb j hj
      rw [show (⟨b, off, none⟩ : Addr).add j = ⟨b, off + j, none⟩ from by unfold Addr.add; split <;> simp_all, this]
      simp [List.getD, List.getElem?_eq_getElem hj]
  refine wpList_plain hgd fun K hK' => ?_
  unfold Oper.wp execOp
  simp only [ho, hx, Sem.run_bind, hrun, Result.andThen_ok, Sem.run_pure]
  exact hK' _ _ hK
end
end Go.Proofs.YtjpaajpjajoijaaDoor
