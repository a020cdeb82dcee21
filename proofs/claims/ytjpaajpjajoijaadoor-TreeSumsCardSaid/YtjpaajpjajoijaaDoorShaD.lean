/- bloomeryref02.block: the eight words behind a block of 64 bytes are the document's. -/
import Derived.Test.YtjpaajpjajoijaaDoorShaC
import Derived.Test.YtjpaajpjajoijaaDoorTail
namespace Go.Proofs.YtjpaajpjajoijaaDoor
open Go.RowKit Sha
theorem turn_quiet {x : Nat} {n : Int} {w : World} {a m : Nat} (hx : x < 4294967296) (h1 : 1 ≤ n) (h2 : n ≤ 31) :
    Calls Tryd.prog 94 #[.int .u32 (x : Int), .int .i64 n] (w.drewN (a + m)) fun e w'' => e = .returned (.int .u32 (rotr x n.toNat : Int)) ∧ ∃ k, w'' = w.drewN (a + k) :=
  (turn_any x n _ hx h1 h2).mono fun _ _ ⟨he, k, hk⟩ => ⟨he, m + k, by rw [hk, World.drewN_drewN, Nat.add_assoc]⟩
theorem WordsAt.lt {w : World} {g o : Nat} {S : St} (h : WordsAt w g o S.toList) : g < w.heap.size := block_lt_of_cell (h 0 (by simp [St.toList]))
/-- The words l lie at an address. -/
def NewsAt (w : World) (ad : Addr) (l : List Value) : Prop := ad.block < w.heap.size ∧ ∀ (j : Nat) (u : Value), l[j]? = some u → w.cell? (ad.add j) = some u
theorem NewsAt.alloc {w : World} {ad : Addr} {l : List Value} (h : NewsAt w ad l) (o : Obj) : ∀ (j : Nat) (u : Value), l[j]? = some u → (w.alloc o).cell? (ad.add j) = some u :=
  fun j u hu => (World.cell?_alloc_lt w o _ (by rw [show (ad.add j).block = ad.block from by unfold Addr.add; split <;> rfl]; exact h.1)).trans (h.2 j u hu)
theorem WordsAt.news {w : World} {g o : Nat} {S : St} (h : WordsAt w g o S.toList) : NewsAt w ⟨g, o, none⟩ (S.toList.map U) :=
  ⟨h.lt, fun j u hu => by
    have hj : j < S.toList.length := by
      rw [List.getElem?_map] at hu
      cases hx : S.toList[j]? with
      | none => simp [hx] at hu
      | some x => exact (List.getElem?_eq_some_iff.1 hx).1
    have h1 : (⟨g, o, none⟩ : Addr).add j = ⟨g, o + j, none⟩ := by unfold Addr.add; split <;> simp_all
    rw [h1, h j hj, ← hu]
    simp [U, List.getD, List.getElem?_eq_getElem hj]⟩
theorem WordsAt.new (w : World) (S : St) : WordsAt (w.alloc (.cells #[.int .u32 (S.a : Int), .int .u32 (S.b : Int), .int .u32 (S.c : Int), .int .u32 (S.d : Int), .int .u32 (S.e : Int), .int .u32 (S.f : Int), .int .u32 (S.g : Int), .int .u32 (S.h : Int)] 91)) w.heap.size 0 S.toList := fun j hj => by
  rw [Nat.zero_add, (Blk.new w 91 _).cell j]
  match j, hj with
  | 0, _ => rfl
  | 1, _ => rfl
  | 2, _ => rfl
  | 3, _ => rfl
  | 4, _ => rfl
  | 5, _ => rfl
  | 6, _ => rfl
  | 7, _ => rfl
  | j + 8, h => simp [St.toList] at h; omega
theorem take_plus (S T : St) (n : Nat) (h : n < 8) : (plus S T).toList.take (n + 1) = (plus S T).toList.take n ++ [add (S.toList.getD n 0) (T.toList.getD n 0)] := by
  match n, h with
  | 0, _ => rfl
  | 1, _ => rfl
  | 2, _ => rfl
  | 3, _ => rfl
  | 4, _ => rfl
  | 5, _ => rfl
  | 6, _ => rfl
  | 7, _ => rfl
theorem one_U (l : List Nat) : ∀ u ∈ l.map U, u.oneCell' = true := by
  intro u hu
  obtain ⟨x, _, rfl⟩ := List.mem_map.1 hu
  rfl
theorem own_word {w : World} {base g cap n : Nat} {l : List Nat} (h : w.ownsRow base 91 1 (.slice (some ⟨g, 0, none⟩) n cap) n (l.map U)) (hl : l.length = n) (j : Nat) (hj : j < n) :
    w.cell? ⟨g, j, none⟩ = some (.int .u32 ((l.getD j 0 : Nat) : Int)) := by
  rw [h.cellAt j (by omega)]
  simp [U, List.getD, hl, hj]
set_option maxHeartbeats 1000000 in
set_option maxRecDepth 100000 in
theorem block_any (S : St) (b : List UInt8) (hb : b.length = 64) (bk off c hg ho hc : Nat) (w : World) (hB : BytesAt w bk off b) (hok : St.ok S) (hS : WordsAt w hg ho S.toList) (hcap : 64 ≤ c) :
    Calls Tryd.prog 78 #[.slice (some ⟨hg, ho, none⟩) 8 hc, .slice (some ⟨bk, off, none⟩) 64 c] w fun e w' =>
      ∃ g cap, e = .returned (.slice (some ⟨g, 0, none⟩) 8 cap) ∧ WordsAt w' g 0 (block S b).toList ∧ Below w.heap.size w w' ∧ g < w'.heap.size := by
  go_enter Tryd.func78, Tryd.ntmps78
  go_wp2_with (go_at_call 92; refine (ks_any _).mono ?_; rintro e w' ⟨rfl, rfl⟩)
  obtain ⟨i0, hi, hz0, hz1, hz2⟩ := info_parts info91
  have hlt0 := hB.lt (by omega)
  go_loopw [6, 7] (fun v i wr => ∃ k : Nat, k ≤ 64 ∧ i = .int .i64 k ∧ wr.ownsRow (w.heap.size + 1) 91 1 v k ((wl b k).map U) ∧ Blk wr w.heap.size 91 (Us ks) ∧ Below w.heap.size w wr) (fun _ i _ => 64 - (intOf i).toNat)
  case atStart => exact ⟨0, by omega, rfl, (by have h := World.ownsRow_lit (base := w.heap.size + 1) (e := 91) (size := 1) (w.alloc (.cells (Us ks) 91)) #[] 0 (by simp) (by decide) rfl; rw [World.size_alloc] at h; exact h), (Blk.new w 91 (Us ks)).alloc _, ((Below.refl _ _).alloc (Nat.le_refl _) _).alloc (by simp) _⟩
  case round =>
    obtain ⟨k, hk, rfl, hown, hK, hBl⟩ := hrel
    have hsz := hBl.size
    by_cases h16 : k < 16
    · have hB4 := (hB.below hBl hlt0).four k (by omega)
      obtain ⟨x, hx⟩ : ∃ x, x = word (b.getD (4 * k) 0) (b.getD (4 * k + 1) 0) (b.getD (4 * k + 2) 0) (b.getD (4 * k + 3) 0) := ⟨_, rfl⟩
      have hwd := word_any _ _ _ _ bk (off + 4 * k) (c - 4 * k) wr hB4
      rw [← hx] at hwd
      have HWD := Lib.hid hwd
      have HX := Lib.hid hx
      clear hx hwd hB4
      go_wp2_with (first
        | (go_at_call 93; refine HWD.out.mono ?_; rintro e w1 ⟨rfl, nd, rfl⟩)
        | (at_builtin; refine wpList_append_lies _ rfl (.tmp 26) (.tmp 35) 92 rfl (w.heap.size + 1) 91 i0 (.int .u32 0) 1 4 Tryd.underlying92 hi hz0 hz1 hz2 rfl (by decide) u6 k _ rfl (hown.alloc _) ⟨wr.heap.size, 0, none⟩ 1 1 [.int .u32 (x : Int)] rfl rfl (news_sole _ _ _) (by simp [Value.oneCell']) (by decide) (by unfold maxLen; omega) (by omega) (by simp; omega) _ rfl ?_; intro g cap w2 hown2 hgrow hat hg2))
      go_wp2
      go_roundw
      case rel =>
        refine ⟨k + 1, by omega, by go_num, ?_, ?_, ?_⟩
        · rw [wl_low b k h16, List.map_append, ← HX.out]; exact hown2
        · exact ((hK.drewN _).alloc _).grown hgrow (fun e => by have := (hown.lt _ e.symm).1; omega)
        · exact ((below_drewN hBl _).alloc hsz _).grown hgrow (by simp; omega) (fun j e => by have := (hown.lt _ e).1; omega)
      case measure => simp [intOf]; omega
    · by_cases hk64 : k < 64
      · obtain ⟨g, cap, rfl, hgb, hgl⟩ := hown.form (by omega)
        have hll := wl_length b k
        have r15 := own_word hown hll (k - 15) (by omega)
        have r2 := own_word hown hll (k - 2) (by omega)
        have r16 := own_word hown hll (k - 16) (by omega)
        have r7 := own_word hown hll (k - 7) (by omega)
        obtain ⟨x15, e15⟩ : ∃ x, x = (wl b k).getD (k - 15) 0 := ⟨_, rfl⟩
        obtain ⟨x2, e2⟩ : ∃ x, x = (wl b k).getD (k - 2) 0 := ⟨_, rfl⟩
        obtain ⟨x16, e16⟩ : ∃ x, x = (wl b k).getD (k - 16) 0 := ⟨_, rfl⟩
        obtain ⟨x7, e7⟩ : ∃ x, x = (wl b k).getD (k - 7) 0 := ⟨_, rfl⟩
        rw [← e15] at r15
        rw [← e2] at r2
        rw [← e16] at r16
        rw [← e7] at r7
        have b15 : x15 < 4294967296 := by rw [e15]; exact wl_lt b k _
        have b2 : x2 < 4294967296 := by rw [e2]; exact wl_lt b k _
        have hnx : nextw (wl b k) = add (add (add x16 (low0 x15)) x7) (low1 x2) := by rw [nextw, hll, e15, e2, e16, e7]
        have HN := Lib.hid hnx
        clear e15 e2 e16 e7 hnx hll
        have l0 := low0_spell x15 b15
        have l1 := low1_spell x2 b2
        have a1 := add_spell x16 (low0 x15)
        have a2 := add_spell (add x16 (low0 x15)) x7
        have a3 := add_spell (add (add x16 (low0 x15)) x7) (low1 x2)
        go_wp2_with fail
        go_quiet (fail)
        go_wp2_with fail
        have q16p : (16 : Int) ≤ (k : Int) := by omega
        have q7p : (7 : Int) ≤ (k : Int) := by omega
        have q16l : (k : Int) - 16 < (k : Int) := by omega
        have q7l : (k : Int) - 7 < (k : Int) := by omega
        have q16t : ((k : Int) - 16).toNat = k - 16 := by omega
        have q7t : ((k : Int) - 7).toNat = k - 7 := by omega
        have q16' : IntKind.i64.wrap ((k : Int) - 16) = (k : Int) - 16 := IntWalk.i64_in _ (by omega)
        have q7' : IntKind.i64.wrap ((k : Int) - 7) = (k : Int) - 7 := IntWalk.i64_in _ (by omega)
        refine wp_region_quiet_tail1 30 (.slice (some ⟨g, 0, none⟩) k cap) (by kernel_rfl) (by kernel_rfl) (by kernel_rfl) (by kernel_rfl) (fun _ _ _ h => h) (.inl ⟨rfl, fun _ => by go_simp⟩) ?_
        simp only [List.take_succ_cons, List.take_zero, List.drop_succ_cons, List.drop_zero, Act.put, List.setIfInBounds_toArray, List.set_cons_zero, List.set_cons_succ]
        repeat (quiet_step ((go_at_call 94; first | exact Calls.quiet_of (turn_any _ _ _ (by assumption) (by omega) (by omega)) | exact turn_quiet (by assumption) (by omega) (by omega))))
        refine wpQuiet_nil ?_
        rintro _ ⟨nq2, rfl⟩
        clear q16' q7' q16t q7t q16p q7p q16l q7l
        go_wp2_with (at_builtin; refine wpList_append_lies _ rfl (.tmp 47) (.tmp 77) 92 rfl (w.heap.size + 1) 91 i0 (.int .u32 0) 1 4 Tryd.underlying92 hi hz0 hz1 hz2 rfl (by decide) (.slice (some ⟨g, 0, none⟩) k cap) k ((wl b k).map U) rfl (hown.alloc _) ⟨wr.heap.size, 0, none⟩ 1 1 [.int .u32 (add (add (add x16 (low0 x15)) x7) (low1 x2) : Int)] rfl rfl (news_sole _ _ _) (by simp [Value.oneCell']) (by decide) (by unfold maxLen; omega) (by omega) (by simp; omega) _ rfl ?_; intro g2 cap2 w2 hown2 hgrow hat hg2)
        go_roundw
        case rel =>
          refine ⟨k + 1, by omega, by go_num, ?_, ?_, ?_⟩
          · rw [wl_high b k (by omega), List.map_append, HN.out]; exact hown2
          · exact ((hK.drewN _).alloc _).grown hgrow (fun e => by have := (hown.lt _ e.symm).1; omega)
          · exact ((below_drewN hBl _).alloc hsz _).grown hgrow (by simp; omega) (fun j e => by have := (hown.lt _ e).1; omega)
        case measure => simp [intOf]; omega
      · obtain ⟨g, cap, rfl, hgb, hgl⟩ := hown.form (by omega)
        have hll := wl_length b k
        have hW : ∀ j, j < k → wr.cell? ⟨g, j, none⟩ = some (.int .u32 (((sched b).getD j 0 : Nat) : Int)) := fun j hj => by
          have := own_word hown hll j hj
          rwa [show wl b k = sched b from by rw [show k = 64 from by omega]; rfl] at this
        obtain ⟨sl, hsl⟩ : ∃ sl, sl = sched b := ⟨_, rfl⟩
        rw [← hsl] at hW
        have HSL := Lib.hid hsl
        have HW := Lib.hid hW
        have hS' : WordsAt wr hg ho S.toList := hS.below hBl hS.lt
        have hnews := hS'.news
        have HNW := Lib.hid hnews
        clear hsl hW hS' hnews hll hown
        go_wp2_with (at_builtin; refine wpList_append_lies _ rfl (.tmp 79) (.tmp 80) 92 rfl w.heap.size 91 i0 (.int .u32 0) 1 4 Tryd.underlying92 hi hz0 hz1 hz2 rfl (by decide) (.slice (some ⟨wr.heap.size, 0, none⟩) 0 0) 0 [] rfl (World.ownsRow_lit (base := w.heap.size) (e := 91) (size := 1) wr #[] 0 hsz (by decide) rfl) ⟨hg, ho, none⟩ 8 hc (S.toList.map U) rfl rfl (HNW.out.alloc _) (one_U _) (by decide) (by unfold maxLen; omega) (by omega) (by simp; omega) _ rfl ?_; intro gl cl w2 hown2 hgrow hat hg2)
        have hSg : WordsAt w2 gl 0 (turns sl S 0).toList := fun j hj => by
          have := own_word hown2 (by simp [St.toList]) j (by simpa [turns, St.toList] using hj)
          simpa [turns] using this
        have hBl2 : Below wr.heap.size wr w2 := ((Below.refl _ _).alloc (Nat.le_refl _) _).grown hgrow (by simp) (fun j e => by cases e; exact Nat.le_refl _)
        clear hown2 hgrow hat hg2
        clear hgb
        go_loopw [10, 11] (fun v i wx => ∃ (n gx cx : Nat), n ≤ 64 ∧ v = .slice (some ⟨gx, 0, none⟩) 8 cx ∧ i = .int .i64 n ∧ WordsAt wx gx 0 (turns sl S n).toList ∧ Below wr.heap.size wr wx) (fun _ i _ => 64 - (intOf i).toNat)
        case atStart => exact ⟨0, gl, cl, by omega, rfl, rfl, hSg, hBl2⟩
        case round =>
          clear hSg hBl2
          obtain ⟨n, gx, cx, hn, rfl, rfl, hT, hBx⟩ := hrel
          by_cases hlt : n < 64
          · have ww := (hBx.cell (p := ⟨g, n, none⟩) hgl).trans (HW.out n (by omega))
            have kk := (hBx.cell (p := ⟨w.heap.size, n, none⟩) hK.lt).trans ((hK.cell n).trans (get_Us ks n hlt))
            obtain ⟨wk, hwk⟩ : ∃ x, x = sl.getD n 0 := ⟨_, rfl⟩
            obtain ⟨kx, hkx⟩ : ∃ x, x = ks.getD n 0 := ⟨_, rfl⟩
            obtain ⟨T, hTT⟩ : ∃ T, T = turns sl S n := ⟨_, rfl⟩
            rw [← hTT] at hT
            rw [← hwk] at ww
            rw [← hkx] at kk
            have HT := Lib.hid hTT
            have HWK := Lib.hid hwk
            have HK := Lib.hid hkx
            clear hTT hwk hkx
            have v0 := hT 0 (by simp [St.toList])
            have v1 := hT 1 (by simp [St.toList])
            have v2 := hT 2 (by simp [St.toList])
            have v3 := hT 3 (by simp [St.toList])
            have v4 := hT 4 (by simp [St.toList])
            have v5 := hT 5 (by simp [St.toList])
            have v6 := hT 6 (by simp [St.toList])
            have v7 := hT 7 (by simp [St.toList])
            simp [St.toList] at v0 v1 v2 v3 v4 v5 v6 v7
            have hTo : St.ok T := by rw [HT.out]; exact hok.turns _ _
            have ba := hTo.a
            have be := hTo.e
            have s1 := sig1_spell T.e be
            have s0 := sig0_spell T.a ba
            have sc := ch_spell T.e T.f T.g be hTo.f hTo.g
            have sm := maj_spell T.a T.b T.c ba hTo.b hTo.c
            have e1 := t1_spell T kx wk
            have e2 := t2_spell T
            have e3 := add_spell (t1 T kx wk) (t2 T)
            have e4 := add_spell T.d (t1 T kx wk)
            clear hTo
            go_wp2_with fail
            go_quiet (fail)
            go_wp2_with fail
            go_quiet ((go_at_call 94; first | exact Calls.quiet_of (turn_any _ _ _ (by assumption) (by omega) (by omega)) | exact turn_quiet (by assumption) (by omega) (by omega)))
            go_wp2_with fail
            go_quiet ((go_at_call 94; first | exact Calls.quiet_of (turn_any _ _ _ (by assumption) (by omega) (by omega)) | exact turn_quiet (by assumption) (by omega) (by omega)))
            go_wp2_with fail
            refine wp_region_quiet_tail 22 (by kernel_rfl) (by kernel_rfl) ?_
            simp only [List.take_succ_cons, List.take_zero, List.drop_succ_cons, List.drop_zero]
            try rw [e2]
            repeat (quiet_step (fail))
            refine wpQuiet_nil ?_
            rintro _ ⟨nq3, rfl⟩
            go_wp2_with fail
            go_roundw
            case rel =>
              refine ⟨n + 1, _, _, by omega, rfl, by go_num, ?_, (below_drewN hBx _).alloc hBx.size _⟩
              rw [show turns sl S (n + 1) = turn T kx wk from by rw [HT.out, HWK.out, HK.out]; rfl]
              exact WordsAt.new _ (turn T kx wk)
            case measure => simp [intOf]; omega
          · have hfin : turns sl S n = turns (sched b) S 64 := by rw [show n = 64 from by omega, HSL.out]
            obtain ⟨T, hTT⟩ : ∃ T, T = turns sl S n := ⟨_, rfl⟩
            rw [← hTT] at hT
            have HT := Lib.hid (hTT.trans hfin)
            clear hTT hfin
            go_wp2
            have hsw := hsz
            have hSx : WordsAt wr hg ho S.toList := (hS.below hBl hS.lt).below hBx (Nat.lt_of_lt_of_le hS.lt hBl.size)
            have hBz : Below w.heap.size w wr := hBl.trans (hBx.mono hBl.size)
            clear HNW HW hK hgl hBx hBl
            have hsz := hBz.size
            go_loopw [16, 17] (fun v i wx => ∃ n : Nat, n ≤ 8 ∧ i = .int .i64 n ∧ wx.ownsRow wr.heap.size 91 1 v n (((plus S T).toList.take n).map U) ∧ Below wr.heap.size wr wx) (fun _ i _ => 8 - (intOf i).toNat)
            case atStart => exact ⟨0, by omega, rfl, World.ownsRow_lit (base := wr.heap.size) (e := 91) (size := 1) wr #[] 0 (Nat.le_refl _) (by decide) rfl, (Below.refl _ _).alloc (Nat.le_refl _) _⟩
            case round =>
              obtain ⟨m, hm, rfl, hown, hBy⟩ := hrel
              have hsy := hBy.size
              by_cases hlt : m < 8
              · have ch := (hSx.below hBy hSx.lt) m (by simp [St.toList]; omega)
                have ct := (hT.below hBy hT.lt) m (by simp [St.toList]; omega)
                obtain ⟨xh, hxh⟩ : ∃ x, x = S.toList.getD m 0 := ⟨_, rfl⟩
                obtain ⟨xt, hxt⟩ : ∃ x, x = T.toList.getD m 0 := ⟨_, rfl⟩
                rw [← hxh] at ch
                rw [← hxt, Nat.zero_add] at ct
                have htk := take_plus S T m hlt
                rw [← hxh, ← hxt] at htk
                have HTK := Lib.hid htk
                clear hxh hxt htk
                have a1 := add_spell xh xt
                go_wp2_with fail
                refine wp_region_quiet_tail1 10 u16 (by kernel_rfl) (by kernel_rfl) (by kernel_rfl) (by kernel_rfl) (fun _ _ _ h => h) (.inl ⟨rfl, fun _ => by go_simp⟩) ?_
                simp only [List.take_succ_cons, List.take_zero, List.drop_succ_cons, List.drop_zero, Act.put, List.setIfInBounds_toArray, List.set_cons_zero, List.set_cons_succ]
                repeat (quiet_step (fail))
                refine wpQuiet_nil ?_
                rintro _ ⟨nq2, rfl⟩
                go_wp2_with (at_builtin; refine wpList_append_lies _ rfl (.tmp 183) (.tmp 193) 92 rfl _ 91 i0 (.int .u32 0) 1 4 Tryd.underlying92 hi hz0 hz1 hz2 rfl (by decide) u16 m _ rfl (hown.alloc _) ⟨wr.heap.size, 0, none⟩ 1 1 [.int .u32 (add xh xt : Int)] rfl rfl (news_sole _ _ _) (by simp [Value.oneCell']) (by decide) (by unfold maxLen; omega) (by omega) (by simp; omega) _ rfl ?_; intro g2 cap2 w2 hown2 hgrow hat hg2)
                go_roundw
                case rel =>
                  refine ⟨m + 1, by omega, by go_num, ?_, ?_⟩
                  · rw [HTK.out, List.map_append]; exact hown2
                  · exact ((below_drewN hBy _).alloc hsy _).grown hgrow (by simp; omega) (fun j e => (hown.lt _ e).1)
                case measure => simp [intOf]; omega
              · go_wp2
                go_ret
                have h8 : m = 8 := by omega
                subst h8
                obtain ⟨g9, cap9, rfl, hg9, hl9⟩ := hown.form (by omega)
                refine ⟨g9, cap9, rfl, fun j hj => ?_, hBz.trans (hBy.mono hBz.size), hl9⟩
                have hj8 : j < 8 := by simpa [St.toList] using hj
                have := own_word hown (by simp [St.toList]) j hj8
                rw [Nat.zero_add, this, show block S b = plus S T from by rw [HT.out]; rfl]
                rfl
end Go.Proofs.YtjpaajpjajoijaaDoor
